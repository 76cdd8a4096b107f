/-
  Own work: TimersDrops.
-/
import Derived.Test.YtbklgfggodgddaaCon8
import Derived.Test.YtbklgfggodgddaaTimLaw
namespace Go.Proofs.Ytbklgfggodgddaa.Con
open Go Go.RowKit Go.Kt Go.Kt.V Go.Proofs.Ytbklgfggodgddaa.Vc
set_option linter.unusedSimpArgs false
set_option linter.unusedVariables false

theorem build_1 {w : World} {x : Int} (hx : InI x) : ∃ s w', (Instr.buildSlice 32 1 #[(0, .int .i64 x)]).run Try.prog w = .ok (Sl.v s) w' ∧ SliceF rInt 1 w' (fun _ => True) s [x] ∧ Only [] w w' := by
  obtain ⟨v, w6, v1, v2, v3, v4, v5, v6⟩ := build_own (P := Try.prog) (t := 32) (e := 3) (i := Try.t3) (w := w) (F := fun _ => True) (r := rInt) (size := 1) (vs := [.int .i64 x]) (parts := #[(0, .int .i64 x)]) (xs := [x]) (len := 1) (by kernel_rfl) (by kernel_rfl) rfl rfl (by decide) rfl rfl (by decide) (by decide) rInt_ok ⟨⟨rfl, rfl, hx⟩, trivial⟩
  exact ⟨v, w6, v1, (v2.slice rInt_ok).mono rInt_ok fun _ _ => trivial, v3⟩
/-- one more, behind -/
theorem push_t {w : World} {B : Nat} {s : Sl} {xs : List Tim} {t : Tim} (hs : OwnU B w s xs) (hB : B ≤ w.heap.size) (ht : t.ok) (hm : (xs.length + 1) * 24 ≤ 140737488355328) :
    ∃ y w1, (Instr.buildSlice 22 1 #[(0, t.v)]).run Try.prog w = .ok (Sl.v y) w1 ∧ Only [] w w1 ∧ ∃ s' w2, (Builtin.append_ #[22, 22] 22 #[Sl.v s, Sl.v y]).run Try.prog w1 = .ok (Sl.v s') w2 ∧ OwnU B w2 s' (xs ++ [t]) ∧ OnlyP (fun k => B ≤ k) w1 w2 := by
  obtain ⟨y, w1, k1, k2, s', w2, k3, k4, ⟨gs, k5, k6⟩, _⟩ := app_one (P := Try.prog) (t := 22) (ty := 22) (e := 24) (i := Try.t24) (bytes := 24) (size := 3) (v := t.v) (x := t) (G := fun _ => False) (by kernel_rfl) (by kernel_rfl) rfl rfl rfl rfl (by decide) (by decide) (by decide) rTim_ok hs hB rfl ⟨rfl, ht⟩ (fun k hk _ => hk.elim) hm
  exact ⟨y, w1, k1, k2, s', w2, k3, OwnU.of k4, k5.p fun g hg => .inl (k6 g hg).2.1⟩
theorem drop_mem {l : List Tim} {node : Int} : dropT l [node] = l.filter fun o => o.n != node := by
  unfold dropT
  congr 1
  funext o
  rw [Bool.eq_iff_iff]
  simp
theorem drops_c {w : World} {F : Nat → Prop} {s : Sl} {l : List Tim} (h : Tims w F s l) (hl : l.length * 24 ≤ 140737488351232) (node : Int) (hn : InI node) :
    Calls Try.prog 6 #[Sl.v s, .int .i64 node] w fun e w' => e = .returned (.bool true) ∧ Only [] w w' := by
  refine ret (pavanelaw14_TimersDrops_wp s node (fun v w' => v = .bool true ∧ Only [] w w') w ?_)
  unfold pavanelaw14_TimersDrops_vc
  have hlen := h.len
  have hl1 : l.length * 24 ≤ 140737488355328 := by omega
  have hl2 : l.length < 140737488355328 := by omega
  have hl3 : ∀ n, n ≤ l.length → (n + 1) * 24 ≤ 140737488355328 := fun n hn => by omega
  have sl : ∀ {u : World}, Only [] w u → Tims u F s l := fun hO => SliceF.only rTim_ok (by decide) h hO (by simp)
  refine (small_c w).mono ?_
  rintro _ w0 ⟨rfl, hO0⟩
  obtain ⟨l0, w1, k1, k2, hO1⟩ := build_1 (w := w0) hn
  have c1 := hO0.tr0 hO1
  refine ⟨true, rfl, l0, w1, k1, (drop_c (sl c1) k2 hl1 (by simp)).mono ?_⟩
  rintro _ w2 ⟨x, i0, rfl, hO2, hx⟩
  have c2 := c1.tr0 hO2
  refine ⟨x, i0, rfl, (right_c (sl c2) hl2).mono ?_⟩
  rintro _ w3 ⟨rfl, hO3⟩
  have c3 := c2.tr0 hO3
  refine ⟨_, rfl, fun hb => ?_, fun hb => ?_⟩
  · have hR : ¬ RightT l := by simpa using hb
    rcases hx with ⟨h', _⟩ | ⟨_, rfl, rfl⟩
    · exact absurd h' hR
    · exact ⟨rfl, c3⟩
  have hR : RightT l := by simpa using hb
  rcases hx with ⟨_, rfl, hx⟩ | ⟨h', _⟩
  case inr => exact absurd hR h'
  have hx3 : OwnU w1.heap.size w3 x (dropT l [node]) := OwnU.only hx hO3
  have hRd : RightT (dropT l [node]) := List.Pairwise.filter _ hR
  have hld : (dropT l [node]).length ≤ l.length := List.length_filter_le _ _
  refine ⟨fun nv r i w' => ∃ n : Nat, n ≤ l.length ∧ i = (n : Int) ∧ nv = l.length - n ∧ OwnU w3.heap.size w' r ((l.take n).filter fun o => o.n != node) ∧ Only [] w3 w', l.length, ⟨0, Nat.zero_le _, rfl, rfl, Own.nil _ _ _ _ _ _, Only.refl _ _⟩, ?_⟩
  rintro nv r _ w4 ⟨n, hnl, rfl, rfl, ho, hO4⟩
  have c4 := c3.tr0 hO4
  refine ⟨fun hc => ?_, fun hc => ?_⟩
  · have hlt : (n : Int) < s.n := of_decide_eq_true hc
    obtain ⟨ad, t, cs, g1, g2, g3, g4, g5, rfl, g6⟩ := (sl c4).get (Int.natCast_nonneg n) hlt
    rw [Int.toNat_natCast] at g2
    have hlt' : n < l.length := (List.getElem?_eq_some_iff.1 g2).1
    have e : l.take (n + 1) = l.take n ++ [t] := by rw [List.take_add_one, g2]; rfl
    refine ⟨fun r' w' => OwnU w3.heap.size w' r' ((l.take (n + 1)).filter fun o => o.n != node) ∧ Only [] w3 w', fun r' w' ⟨h1, h2⟩ => ⟨l.length - (n + 1), by omega, n + 1, by omega, by rw [wr' (by omega) (by omega)]; rfl, rfl, h1, h2⟩, ad, g1, t.n, g5.at1 1 _ rfl, fun hne => ?_, fun he => ?_⟩
    · have hfl : ((l.take n).filter fun o => o.n != node).length ≤ n := Nat.le_trans (List.length_filter_le _ _) (by rw [List.length_take]; exact Nat.min_le_left _ _)
      obtain ⟨y, w6, b1, b2, s', w7, b3, b4, b5⟩ := push_t ho hO4.size g6 (hl3 _ (Nat.le_trans hfl hnl))
      refine ⟨ad, g1, _, _, _, g5, y, w6, b1, s', w7, b3, ?_, ?_⟩
      · rw [e, List.filter_append]
        simpa [hne] using b4
      · exact (((hO4.tr0 b2).p0 (F := fun k => w3.heap.size ≤ k)).trans b5 fun k hk => .inl hk).only fun k hk => hk
    · refine ⟨?_, hO4⟩
      rw [e, List.filter_append]
      simpa [he] using ho
  · have hge : ¬ ((n : Int) < s.n) := of_decide_eq_false hc
    rw [List.take_of_length_le (by omega), ← drop_mem] at ho
    have hx4 : OwnU w1.heap.size w4 x (dropT l [node]) := OwnU.only hx3 hO4
    refine (same_c hx4.sl ho.sl).mono ?_
    rintro _ w8 ⟨rfl, hO8⟩
    have c8 := c4.tr0 hO8
    obtain ⟨l6, w9, m1, m2, hO9⟩ := build_1 (w := w8) hn
    have c9 := c8.tr0 hO9
    have hx9 : OwnU w1.heap.size w9 x (dropT l [node]) := OwnU.only hx4 (hO8.tr0 hO9)
    refine ⟨_, rfl, l6, w9, m1, (drop_c hx9.sl m2 (Nat.le_trans (Nat.mul_le_mul_right 24 hld) hl1) (by simp)).mono ?_⟩
    rintro _ w10 ⟨z, i6, rfl, hO10, hz⟩
    rcases hz with ⟨_, rfl, hz⟩ | ⟨h', _⟩
    case inr => exact absurd hRd h'
    have c10 := c9.tr0 hO10
    have hdd : dropT (dropT l [node]) [node] = dropT l [node] := by
      rw [drop_mem, drop_mem, List.filter_filter]
      simp
    refine ⟨z, 0, rfl, fun b w' => b = true ∧ Only [] w w', fun b w' hj => ⟨by rw [hj.1], hj.2⟩, fun _ => ?_, fun e => absurd e (by simp)⟩
    have ho10 : OwnU w3.heap.size w10 r (dropT l [node]) := OwnU.only ho (hO8.tr0 (hO9.tr0 hO10))
    refine (same_c hz.sl ho10.sl).mono ?_
    rintro _ w11 ⟨rfl, hO11⟩
    exact ⟨_, rfl, decide_eq_true hdd, c10.tr0 hO11⟩
end Go.Proofs.Ytbklgfggodgddaa.Con
