/-
  Own work: EvalTells: what any expression comes to in any environment.
-/
import Derived.Test.YtmanockofcopjaaGreatDoorTells0
import Derived.Test.YtmanockofcopjaaGreatDoorCopy
import Derived.Test.YtmanockofcopjaaGreatDoorTree
import Derived.Test.YtmanockofcopjaaGreatDoorArg0
namespace Go.Proofs.YtmanockofcopjaaGreatDoor.Con
open Go Go.RowKit Go.Kt Go.Kt.V Go.Proofs.YtmanockofcopjaaGreatDoor.Vc
set_option linter.unusedSimpArgs false
set_option linter.unusedVariables false
set_option maxHeartbeats 4000000

abbrev rEnv : Rp (List ByteArray × List Int × List ByteArray × Unit) := rPair (rSl rStr 1 16) (rPair (rSl rInt 1 8) (rPair (rSl rStr 1 16) rUnit))
theorem str_tx {w : World} {F : Nat → Prop} {s : Sl} {l : List ByteArray} (h : SliceF rStr 1 w F s l) : SliceF rTx 1 w F s (l.map fun b => b.data.toList) :=
  ⟨by rw [List.length_map]; exact h.len, h.cap, h.nil0, h.big, fun j x hx => by
    rw [List.getElem?_map, Option.map_eq_some_iff] at hx
    obtain ⟨b, hb, rfl⟩ := hx
    obtain ⟨base, cs, h1, h2, h3, h4, h5, _⟩ := h.at_ j b hb
    exact ⟨base, cs, h1, h2, h3, h4, by unfold rTx; rw [h5, ← T_of b]⟩⟩
theorem env_lim {w : World} {F : Nat → Prop} {a : List ByteArray × List Int × List ByteArray × Unit} {es : List Value} (h : rEnv w F a es) : ∃ (e : Env5) (sN sV sA : Sl), es = [sN.v, sV.v, sA.v] ∧ SliceF rTx 1 w F sN e.N ∧ SliceF rInt 1 w F sV e.V ∧ SliceF rTx 1 w F sA e.A ∧
    e.N.length * 16 ≤ 140737488355328 ∧ e.V.length * 8 ≤ 140737488355328 ∧ e.A.length * 16 ≤ 140737488355328 := by
  obtain ⟨l1, l2, l3, u⟩ := a
  obtain ⟨c1, r1, rfl, ⟨s1, rfl, h1, b1⟩, c2, r2, rfl, ⟨s2, rfl, h2, b2⟩, c3, r3, rfl, ⟨s3, rfl, h3, b3⟩, hu⟩ := h
  have hu : r3 = [] := hu
  subst hu
  dsimp only at b1 b2 b3
  refine ⟨⟨l1.map fun b => b.data.toList, l2, l3.map fun b => b.data.toList⟩, s1, s2, s3, rfl, str_tx h1, h2, str_tx h3, ?_, ?_, ?_⟩
  · dsimp only; rw [List.length_map]; omega
  · dsimp only; omega
  · dsimp only; rw [List.length_map]; omega
/-- numbers put into a row that has no room -/
theorem appI {w : World} {F : Nat → Prop} {sV : Sl} {V : List Int} (b : Nat) (hV : SliceF rInt 1 w F sV V) (hm : V.length * 8 ≤ 140737488355328) :
    ∃ l w', (Builtin.append_ #[26, 26] 26 #[Sl.v ⟨some ⟨b, 0, none⟩, 0, 0⟩, sV.v]).run Tryz.prog w = .ok (Sl.v l) w' ∧ SliceF rInt 1 w' (fun k => w.heap.size ≤ k ∧ k < w'.heap.size) l V ∧ Only [] w w' := by
  by_cases h0 : sV.n = 0
  · have hx : V = [] := List.eq_nil_of_length_eq_zero (by have := hV.len; omega)
    subst hx
    refine ⟨⟨some ⟨b, 0, none⟩, 0, 0⟩, w, ?_, ⟨rfl, Nat.le_refl _, fun h => (by cases h), Nat.zero_le _, fun j x h => by simp at h⟩, Only.refl _ _⟩
    obtain ⟨ya, yn, yc⟩ := sV
    dsimp only at h0
    subst h0
    have ht : Tryz.prog.underlying 26 = some (.slice 3) := by kernel_rfl
    have hi : Tryz.prog.info? 3 = some Tryz.t3 := by kernel_rfl
    cases ya <;> simp [Builtin.append_, run_underlying ht, sizeOf, typeInfo, hi, Builtin.lenOf, Builtin.firstCells, loadCells, loadCellsFrom, storeCells]
  · have hs : SliceF rInt 1 w F ⟨some ⟨b, 0, none⟩, 0, 0⟩ [] := ⟨rfl, Nat.le_refl _, fun h => (by cases h), Nat.zero_le _, fun j x h => by simp at h⟩
    obtain ⟨s', w', k1, k2, k3, _⟩ := app_grow (P := Tryz.prog) (t := 26) (ty := 26) (e := 3) (i := Tryz.t3) (bytes := 8) (size := 1) (r := rInt) (by kernel_rfl) (by kernel_rfl) rfl rfl rfl rfl rInt_ok hs hV (by dsimp only; omega) (by simpa using hm) (by decide)
    refine ⟨s', w', k1, ?_, k3⟩
    have := SliceF.inHeap rInt_ok (flatO rInt_ok (fun _ _ _ _ _ h => h) k2) (by decide)
    exact SliceF.mono rInt_ok this fun k hk => ⟨hk.1.1, hk.2⟩
theorem copied6_c {w : World} {F : Nat → Prop} {s : Sl} {l : List (List UInt8)} (h : SliceF rTx 1 w F s l) (hm : l.length * 16 ≤ 140737488355328) :
    Calls Tryz.prog 10 #[s.v] w fun e w' => ∃ s' : Sl, e = .returned s'.v ∧ SliceF rTx 1 w' (fun k => w.heap.size ≤ k ∧ k < w'.heap.size) s' l ∧ Only [] w w' := by
  refine (pavanelaw06_copied_wp s (fun v w' => ∃ s' : Sl, v = s'.v ∧ SliceF rTx 1 w' (fun k => w.heap.size ≤ k ∧ k < w'.heap.size) s' l ∧ Only [] w w') w ?_).mono (by
    rintro e w' ⟨v, rfl, s', rfl, h⟩; exact ⟨s', rfl, h⟩)
  unfold pavanelaw06_copied_vc
  obtain ⟨y, w1, k1, l1, w2, k2, hown, hO2, _⟩ := clone_own (P := Tryz.prog) (t := 25) (ty := 25) (e := 9) (i := Tryz.t9) (bytes := 16) (size := 1) (r := rTx) (by kernel_rfl) (by kernel_rfl) rfl rfl rfl rfl (by decide) rTx_ok h hm (by decide)
  refine ⟨y, w1, k1, l1, w2, k2, l1, rfl, ?_, hO2⟩
  exact SliceF.mono rTx_ok (SliceF.inHeap rTx_ok (flatS hown) (by decide)) fun k hk => ⟨hk.1.1, hk.2⟩
theorem same6_c {w : World} {F G : Nat → Prop} {s t : Sl} {l m : List (List UInt8)} (h : SliceF rTx 1 w F s l) (k : SliceF rTx 1 w G t m) :
    Calls Tryz.prog 15 #[s.v, t.v] w fun e w' => e = .returned (.bool (decide (l = m))) ∧ Only [] w w' := by
  refine ret (pavaneref06_Same_wp s t (fun v w' => v = .bool (decide (l = m)) ∧ Only [] w w') w ?_)
  unfold pavaneref06_Same_vc
  have h1 := h.len
  have h2 := h.cap
  have h3 := h.big
  have k1 := k.len
  refine ⟨fun hc => ?_, fun hc => ?_⟩
  · have hc : ¬ (s.n : Int) = (t.n : Int) := by simpa using hc
    rw [decide_eq_false (fun e => hc (by rw [h1, k1, e]))]
    exact ⟨rfl, Only.refl _ _⟩
  · have hc : (s.n : Int) = (t.n : Int) := by simpa using hc
    have hlm : l.length = m.length := by omega
    refine ⟨fun nv i w' => ∃ n : Nat, n ≤ l.length ∧ i = (n : Int) ∧ nv = l.length - n ∧ l.take n = m.take n ∧ Only [] w w', l.length, ⟨0, Nat.zero_le _, rfl, rfl, by simp, Only.refl _ _⟩, ?_⟩
    rintro nv _ w0 ⟨n, hn, rfl, rfl, he, hO⟩
    refine ⟨fun hlt => ?_, fun hge => ?_⟩
    · have hlt : (n : Int) < (s.n : Int) := of_decide_eq_true hlt
      obtain ⟨p, x, cs, a1, a2, a3, a4, a5, a6⟩ := (SliceF.only rTx_ok (by decide) h hO (by simp)).get (Int.natCast_nonneg n) hlt
      obtain ⟨q, y, ds, b1, b2, b3, b4, b5, b6⟩ := (SliceF.only rTx_ok (by decide) k hO (by simp)).get (i := (n : Int)) (Int.natCast_nonneg n) (by omega)
      rw [Int.toNat_natCast] at a2 b2
      unfold rTx at a6 b6
      subst a6 b6
      refine ⟨p, a1, _, a5, q, b1, _, b5, ?_⟩
      rw [T_eq]
      refine ⟨fun hne w1 hO1 => ?_, fun heq w2 hO2 => ⟨l.length - (n + 1), by omega, n + 1, by omega, by rw [wr' (by omega) (by omega)]; rfl, rfl, ?_, hO.tr0 hO2⟩⟩
      · have hne : x ≠ y := by simpa using hne
        rw [decide_eq_false (fun e => hne (by rw [e, b2] at a2; exact (Option.some.inj a2).symm))]
        exact ⟨rfl, hO.tr0 hO1⟩
      · have heq : x = y := by simpa using heq
        rw [List.take_add_one, List.take_add_one, he, a2, b2, heq]
    · have hge : ¬ (n : Int) < (s.n : Int) := of_decide_eq_false hge
      rw [List.take_of_length_le (by omega), List.take_of_length_le (by omega)] at he
      rw [decide_eq_true he]
      exact ⟨rfl, hO⟩
theorem true_c {d : Nat} {F G : Nat → Prop} {e : Env5} {w : World} {sN sV sA : Sl} {x : Ex} {cs : List Value} (hx : rEx d w G x cs) (hN : SliceF rTx 1 w F sN e.N) (hV : SliceF rInt 1 w F sV e.V) (hA : SliceF rTx 1 w F sA e.A) :
    Calls Tryz.prog 12 #[.agg cs.toArray, .agg #[sN.v, sV.v, sA.v]] w fun r w' => r = .returned (.tuple #[.bool ((evM e d x).1 != 0), .int .i64 (evM e d x).2]) ∧ Only [] w w' := by
  obtain ⟨sl, rfl⟩ := rEx_cells hx
  refine ret (eval_True_wp x.k x.n (T x.s) x.op sl x.a sN sV sA (fun v w' => v = .tuple #[.bool ((evM e d x).1 != 0), .int .i64 (evM e d x).2] ∧ Only [] w w') w ?_)
  unfold eval_True_vc
  intro k0 k1 w0 hk0 hk0' hk1 hk1' hO0
  refine (eval_c (rEx_only hx hO0) (SliceF.only rTx_ok (by decide) hN hO0 (by simp)) (SliceF.only rInt_ok (by decide) hV hO0 (by simp)) (SliceF.only rTx_ok (by decide) hA hO0 (by simp))).mono ?_
  rintro _ w1 ⟨rfl, hO1⟩
  exact ⟨_, _, rfl, hO1.same (by simp; omega), rfl, hO0.tr0 hO1⟩
end Go.Proofs.YtmanockofcopjaaGreatDoor.Con
