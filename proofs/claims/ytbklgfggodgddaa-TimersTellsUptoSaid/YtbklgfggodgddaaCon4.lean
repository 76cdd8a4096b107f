/-
  Own work: what the functions of the timers package do: slices.Insert.
-/
import Derived.Test.YtbklgfggodgddaaCon3
import Derived.Test.YtbklgfggodgddaaCopy
import Derived.Lib.Overlaps
namespace Go.Proofs.Ytbklgfggodgddaa.Con
open Go Go.RowKit Go.Kt Go.Kt.V Go.Proofs.Ytbklgfggodgddaa.Vc
set_option linter.unusedSimpArgs false
set_option linter.unusedVariables false

theorem blk_frz {w : World} {b : Nat} {t : TypeId} {cs : List Value} (h : Blk w b t cs) (o : Nat) : w.frozen? ⟨b, o, none⟩ = false := by
  unfold World.frozen?
  have h : w.heap[b]? = some (.cells cs.toArray t (0, 0)) := h
  simp only [h]
  simp
theorem blk_shp {w : World} {b : Nat} {t : TypeId} {cs : List Value} (h : Blk w b t cs) : w.shape? b = some (t, cs.length) := by
  unfold World.shape?
  have h : w.heap[b]? = some (.cells cs.toArray t (0, 0)) := h
  simp only [h]
  simp
theorem overlaps_c {w : World} {x y o' lx cx ly cy : Nat} {tx ty : TypeId} {csx csy : List Value} (hx : Blk w x tx csx) (hy : Blk w y ty csy) (hn : csy ≠ []) (hne : x ≠ y) :
    (extV 33 #[.slice (some ⟨x, 0, none⟩) lx cx, .slice (some ⟨y, o', none⟩) ly cy]).run Try.prog w = .ok (.bool false) w := by
  have hov : (callFunc 33 #[.slice (some ⟨x, 0, none⟩) lx cx, .slice (some ⟨y, o', none⟩) ly cy]).run Try.prog w = .ok (.value (.bool false)) w := by
    rw [run_callFunc_extern Try.func33 (by kernel_rfl) (by kernel_rfl) (by kernel_rfl) (e := Extern.SlicesOverlaps.overlaps #[22, 22] #[4]) (by kernel_rfl),
      Lib.run_overlaps_apart (e := 24) w 22 4 (by kernel_rfl) 3 (fun w => Try.sizeOf24 w) ⟨x, 0, none⟩ ⟨y, o', none⟩ lx cx ly cy hne tx ty _ _ (blk_shp hx) (blk_shp hy) (by simpa using hn) (blk_frz hx 0) (blk_frz hx _)]
    rfl
  unfold extV
  rw [Sem.run_bind, hov, Result.andThen_ok]
  rfl
theorem cutL {g n c lo hi m : Nat} (h : lo < m) : Sl.cut ⟨some ⟨g, 0, none⟩, n, c⟩ lo hi m 3 = ⟨some ⟨g, lo * 3, none⟩, hi - lo, m - lo⟩ := by
  simp only [Sl.cut]
  rw [if_neg (by omega)]
  simp only [Option.map_some, addr_lit, Nat.zero_add]
theorem cut0 {g n c hi m : Nat} : Sl.cut ⟨some ⟨g, 0, none⟩, n, c⟩ 0 hi m 3 = ⟨some ⟨g, 0, none⟩, hi, m⟩ := by
  simp only [Sl.cut]
  split <;> simp [Addr.add]
theorem tim_one (t : Tim) : ∀ v ∈ t.cs, v.oneCell' = true := by
  intro v hv
  simp only [Tim.cs, List.mem_cons, List.not_mem_nil, or_false] at hv
  rcases hv with rfl | rfl | rfl <;> rfl
/-- one is laid in -/
theorem insert_c {w : World} {F : Nat → Prop} {B : Nat} {s v : Sl} {l : List Tim} {t : Tim} {g : Nat} (hs : OwnT B w F s l) (hB : B ≤ w.heap.size) (hl : (l.length + 1) * 24 ≤ 140737488355328) (ht : t.ok) (hFg : F g) (hv : v = ⟨some ⟨g, 0, none⟩, 1, 1⟩) (hg : Blk w g 24 t.cs) (hgs : s.a ≠ some ⟨g, 0, none⟩) {k : Nat} (hk : k ≤ l.length) :
    Calls Try.prog 25 #[Sl.v s, .int .i64 k, Sl.v v] w fun e w' => ∃ s', e = .returned (Sl.v s') ∧ OwnT B w' F s' (l.take k ++ [t] ++ l.drop k) ∧ (s'.a = s.a ∨ ∃ g', s'.a = some ⟨g', 0, none⟩ ∧ w.heap.size ≤ g') ∧ OnlyP (fun k => s.a = some ⟨k, 0, none⟩) w w' := by
  refine (slices_Insert_api_Timer_wp s k v (fun r w' => ∃ s', r = Sl.v s' ∧ OwnT B w' F s' (l.take k ++ [t] ++ l.drop k) ∧ (s'.a = s.a ∨ ∃ g', s'.a = some ⟨g', 0, none⟩ ∧ w.heap.size ≤ g') ∧ OnlyP (fun k => s.a = some ⟨k, 0, none⟩) w w') w ?_).mono (by
    rintro e w' ⟨r, rfl, s', rfl, h⟩; exact ⟨s', rfl, h⟩)
  unfold slices_Insert_api_Timer_vc
  have hlen := hs.len
  have hcap := hs.cap
  subst hv
  refine ⟨k, ⟨rfl, by omega, hcap⟩, fun hc => by simp at hc, fun _ => ⟨fun hc => ?_, fun hc => ?_⟩⟩
  · -- at the end
    have hkl : k = l.length := by
      have : (k : Int) = s.n := by simpa using hc
      omega
    subst hkl
    have hvs : SliceF rTim 3 w (fun k => F k ∧ s.a ≠ some ⟨k, 0, none⟩) (⟨some ⟨g, 0, none⟩, 1, 1⟩ : Sl) [t] :=
      SliceF.of (base := ⟨g, 0, none⟩) (css := [t.cs]) ⟨⟨rfl, rfl, ht⟩, trivial⟩ rfl ⟨hFg, hgs⟩ (hg.cells 0 _ fun j v hj => by rw [Nat.zero_add]; simpa using hj) rfl (Nat.le_refl _) (by show (1 : Nat) ≤ 9223372036854775807; omega)
    obtain ⟨s', w', k1, k2, gs, k3, k4, k5⟩ := app_own (P := Try.prog) (t := 22) (ty := 22) (e := 24) (i := Try.t24) (bytes := 24) (size := 3) (by kernel_rfl) (by kernel_rfl) rfl rfl rfl rfl rTim_ok hs hvs hB (by simpa using hl) (by decide)
    refine ⟨s', w', k1, s', rfl, by simpa using k2, k5.imp id fun h => ⟨_, h, Nat.le_refl _⟩, k3.p fun x hx => .inl (k4 x hx).1⟩
  · have hkl : k < l.length := by
      have : ¬ (k : Int) = s.n := by simpa using hc
      omega
    rcases hs with ⟨rfl, rfl⟩ | ⟨g0, css, tail, a1, a2, a4, a5, a6, a7, a9, a8⟩
    · simp at hkl
    obtain ⟨sa, sn, sc⟩ := s
    dsimp only at a1 a5 a6 a7 a9 hlen hcap hgs
    subst a1
    have hgg : g ≠ g0 := fun e => hgs (by rw [e])
    have hcl := a8.len
    have hsz := a8.sz
    have hA : ((css.take k).flatten).length = k * 3 := by rw [flat_len fun c hc => hsz c (List.mem_of_mem_take hc), List.length_take, Nat.min_eq_left (by omega)]
    have hD : ((css.drop k).flatten).length = (l.length - k) * 3 := by rw [flat_len fun c hc => hsz c (List.mem_of_mem_drop hc), List.length_drop, hcl]
    have hfl : css.flatten = (css.take k).flatten ++ (css.drop k).flatten := by rw [← List.flatten_append, List.take_append_drop]
    have hone : ∀ c, c ∈ css → ∀ v ∈ c, v.oneCell' = true := fun c hc => by
      obtain ⟨x, _, hx⟩ := a8.mem c hc
      exact rTim_ok.one hx
    have hD1 : ∀ v ∈ (css.drop k).flatten, v.oneCell' = true := fun v hv => by
      obtain ⟨c, hc, hvc⟩ := List.mem_flatten.1 hv
      exact hone c (List.mem_of_mem_drop hc) v hvc
    have hT : t.cs.length = 3 := rfl
    rw [hfl] at a4
    have hE : ∀ w' G, Els rTim 3 w' (fun k => F k ∧ k ≠ G) (l.take k ++ [t] ++ l.drop k) (css.take k ++ [t.cs] ++ css.drop k) := fun w' G =>
      All2.app (All2.app (All2.take k (All2.imp (fun _ _ h => h) a8)) ⟨⟨rfl, rfl, ht⟩, trivial⟩) (All2.drop k (All2.imp (fun _ _ h => h) a8))
    have hfl2 : (css.take k ++ [t.cs] ++ css.drop k).flatten = (css.take k).flatten ++ t.cs ++ (css.drop k).flatten := by simp
    have hlen2 : (l.take k ++ [t] ++ l.drop k).length = l.length + 1 := by simp; omega
    have hw1 : IntKind.i64.wrap ((sn : Int) + ((1 : Nat) : Int)) = sn + 1 := wr' (by omega) (by omega)
    have hw2 : IntKind.i64.wrap ((k : Int) + ((1 : Nat) : Int)) = k + 1 := wr' (by omega) (by omega)
    dsimp only
    rw [hw1, hw2]
    refine ⟨fun hc2 => ?_, fun hc2 => ?_⟩
    · -- no room
      have hc2 : (sn : Int) + 1 > sc := of_decide_eq_true hc2
      have hw3 : IntKind.i64.wrap ((sn : Int) + 1 - k) = ((sn + 1 - k : Nat) : Int) := by rw [wr' (by omega) (by omega)]; omega
      rw [hw3]
      have happ := run_append_zeros (P := Try.prog) (w := w) (t := 22) (it := 3) (ty := 22) (e := 24) (i := Try.t24) (by kernel_rfl) (by kernel_rfl) (by kernel_rfl) rfl
        (b := ⟨g0, 0, none⟩) (sLen := k) (sCap := sc) (olds := (css.take k).flatten) hA (a4.cells 0 _ fun j v hj => by
          rw [Nat.zero_add, List.append_assoc, List.getElem?_append_left (List.getElem?_eq_some_iff.1 hj).1]; exact hj) (n := sn + 1 - k)
        (by show (sn + 1 - k) * 3 ≠ 0; omega) (by omega) (by omega) (by show (sn + 1 - k) * 24 ≤ _; omega) (growslice_fits (by omega) (by show (k + (sn + 1 - k)) * 24 ≤ _; omega))
      have hkn : k + (sn + 1 - k) = sn + 1 := by omega
      rw [hkn] at happ
      have hge : sn + 1 ≤ grownCap w (sn + 1) sc 24 := grownCap_ge _ _ _ _
      have hle : grownCap w (sn + 1) sc 24 ≤ 9223372036854775807 := grownCap_le_maxLen _ _ _ _ (by simp only [maxLen]; omega)
      generalize hgc : grownCap w (sn + 1) sc 24 = gc at *
      rw [toArr] at happ
      generalize hZ : (Builtin.zeroCells (Value.cells _) (sn + 1 - k)).toList = Z at happ
      generalize hM : (Builtin.zeroCells (Value.cells _) (gc - (sn + 1))).toList = more at happ
      have hZl : Z.length = (sn + 1 - k) * 3 := by rw [← hZ]; exact zero_len (size := 3) w _ rfl
      have hMl : more.length = (gc - (sn + 1)) * 3 := by rw [← hM]; exact zero_len (size := 3) w _ rfl
      have hO1 : Only [] w (w.drew.alloc (.cells ((css.take k).flatten ++ Z ++ more).toArray 24)) := (Only.drew w).tr0 (Only.alloc _ _)
      have hb1 : Blk (w.drew.alloc (.cells ((css.take k).flatten ++ Z ++ more).toArray 24)) w.heap.size 24 ((css.take k).flatten ++ Z ++ more) := Blk.alloc w.drew _ _
      generalize w.drew.alloc (.cells ((css.take k).flatten ++ Z ++ more).toArray 24) = w1 at *
      refine ⟨k, ⟨rfl, by omega⟩, ⟨some ⟨w.heap.size, 0, none⟩, sn + 1, gc⟩, w1, by rw [cut0]; exact happ, k, ⟨rfl, by dsimp only; omega, hge⟩, ?_⟩
      dsimp only
      have hg1 : Blk w1 g 24 t.cs := (hO1.block g hg.lt (by simp)).trans hg
      obtain ⟨w2, c1, c2, c3⟩ := run_copy_n (P := Try.prog) (w := w1) (dT := 22) (sT := 22) (ty := 3) (e := 24) (i := Try.t24) (o := k * 3) (dLen := sn + 1 - k) (dCap := gc - k) (a := ⟨g, 0, none⟩) (sLen := 1) (sCap := 1) (n := 1) (cs := t.cs) (by kernel_rfl) (by kernel_rfl) hb1 (Nat.min_eq_left (by omega)) rfl (hg1.cells 0 _ fun j v hj => by rw [Nat.zero_add]; exact hj) (by rw [hT, List.length_append, List.length_append, hA, hZl]; omega) (tim_one t)
      refine ⟨_, w2, by rw [cutL (by omega)]; exact c1, k + 1, ⟨rfl, by omega, hge⟩, k, ⟨rfl, by omega, a7⟩, fun w3 hO3 => ?_⟩
      have hlt0 := a4.lt
      have hb3 : Blk w3 w.heap.size 24 _ := (hO3.block _ c3.lt (by simp)).trans c3
      have a43 : Blk w3 g0 24 ((css.take k).flatten ++ (css.drop k).flatten ++ tail) := ((hO1.cons c2).tr0 hO3).blk a4 (by simp; omega)
      obtain ⟨w4, d1, d2, d3⟩ := run_copy_n (P := Try.prog) (w := w3) (dT := 22) (sT := 22) (ty := 3) (e := 24) (i := Try.t24) (o := (k + 1) * 3) (dLen := sn + 1 - (k + 1)) (dCap := gc - (k + 1)) (a := ⟨g0, k * 3, none⟩) (sLen := sn - k) (sCap := sc - k) (n := l.length - k) (cs := (css.drop k).flatten) (by kernel_rfl) (by kernel_rfl) hb3 (by show min (sn - k) (sn + 1 - (k + 1)) = _; omega) hD
        (a43.cells (k * 3) _ fun j v hj => by
          rw [List.append_assoc, List.getElem?_append_right (by omega), hA, Nat.add_sub_cancel_left, List.getElem?_append_left (List.getElem?_eq_some_iff.1 hj).1]; exact hj)
        (by simp only [List.length_append, List.length_take, List.length_drop, hA, hZl, hMl, hT, hD]; omega) hD1
      refine ⟨_, w4, by rw [cutL (by omega), cutL (by omega)]; exact d1, _, rfl, .inr ⟨w.heap.size, css.take k ++ [t.cs] ++ css.drop k, more, rfl, hB, ?_, ?_, ?_, hge, hle, hE _ _⟩, .inr ⟨w.heap.size, rfl, Nat.le_refl _⟩, ?_⟩
      · have e1 := ins_grow (A := (css.take k).flatten) (T := t.cs) (D := (css.drop k).flatten) (Z := Z) (more := more) (by rw [hZl, hT, hD]; omega)
        rw [hA, hT, hD] at e1
        rw [hT, hD, show (k + 1) * 3 = k * 3 + 3 by omega] at d3
        rw [hfl2, ← e1]
        exact d3
      · dsimp only; rw [hMl]
      · dsimp only; rw [hlen2]; omega
      · have h4 : Only [] w w4 := (((hO1.trans c2 (by simp)).tr0 hO3).trans d2 (by simp))
        exact h4.p0
    · -- room
      have hc2 : ¬ ((sn : Int) + 1 > sc) := of_decide_eq_false hc2
      refine ⟨sn + 1, ⟨rfl, by omega⟩, ?_⟩
      simp only [cut0]
      have hlt0 := a4.lt
      have hne : (css.take k).flatten ++ (css.drop k).flatten ++ tail ≠ [] := fun e => by
        have := congrArg List.length e
        simp only [List.length_append, hA, hD, List.length_nil] at this
        omega
      refine ⟨k + 1, ⟨rfl, by omega, by omega⟩, false, w, ?_, fun _ => ?_, fun h => (by cases h)⟩
      · rw [cutL (by omega)]
        exact overlaps_c hg a4 hne hgg
      · refine ⟨k + 1, ⟨rfl, by omega, by omega⟩, k, ⟨rfl, by omega, by omega⟩, fun w6 hO6 => ?_⟩
        rw [cutL (by omega), cutL (by omega)]
        have b6 : Blk w6 g0 24 ((css.take k).flatten ++ (css.drop k).flatten ++ tail) := hO6.blk a4 (by simp)
        have htl : 3 ≤ tail.length := by rw [a5]; omega
        obtain ⟨w7, c1, c2, c3⟩ := run_copy_n (P := Try.prog) (w := w6) (dT := 22) (sT := 22) (ty := 3) (e := 24) (i := Try.t24) (o := (k + 1) * 3) (dLen := sn + 1 - (k + 1)) (dCap := sc - (k + 1)) (a := ⟨g0, k * 3, none⟩) (sLen := sn + 1 - k) (sCap := sc - k) (n := l.length - k) (cs := (css.drop k).flatten) (by kernel_rfl) (by kernel_rfl) b6 (by show min (sn + 1 - k) (sn + 1 - (k + 1)) = _; omega) hD
          (b6.cells (k * 3) _ fun j v hj => by
            rw [List.append_assoc, List.getElem?_append_right (by omega), hA, Nat.add_sub_cancel_left, List.getElem?_append_left (List.getElem?_eq_some_iff.1 hj).1]; exact hj)
          (by simp only [List.length_append, hA, hD]; omega) hD1
        have hg7 : Blk w7 g 24 t.cs := c2.blk (hO6.blk hg (by simp)) (by simp; exact hgg)
        have hl7 := congrArg List.length (rfl : ((css.take k).flatten ++ (css.drop k).flatten ++ tail) = _)
        obtain ⟨w8, d1, d2, d3⟩ := run_copy_n (P := Try.prog) (w := w7) (dT := 22) (sT := 22) (ty := 3) (e := 24) (i := Try.t24) (o := k * 3) (dLen := sn + 1 - k) (dCap := sc - k) (a := ⟨g, 0, none⟩) (sLen := 1) (sCap := 1) (n := 1) (cs := t.cs) (by kernel_rfl) (by kernel_rfl) c3 (by show min 1 (sn + 1 - k) = _; omega) rfl (hg7.cells 0 _ fun j v hj => by rw [Nat.zero_add]; exact hj)
          (by simp only [List.length_append, List.length_take, List.length_drop, hA, hD, hT]; omega) (tim_one t)
        refine ⟨_, w7, c1, k, ⟨rfl, by omega, by omega⟩, _, w8, by rw [cutL (by omega)]; exact d1, _, rfl, .inr ⟨g0, css.take k ++ [t.cs] ++ css.drop k, tail.drop 3, rfl, a2, ?_, ?_, ?_, by dsimp only; omega, a9, hE _ _⟩, .inl rfl, ?_⟩
        · have e1 := ins_room (A := (css.take k).flatten) (T := t.cs) (D := (css.drop k).flatten) (tl := tail) (by rw [hT]; exact htl)
          rw [hA, hT, hD] at e1
          rw [hT, hD, show (k + 1) * 3 = k * 3 + 3 by omega] at d3
          rw [hfl2, ← e1]
          exact d3
        · dsimp only; rw [List.length_drop, a5]; omega
        · dsimp only; rw [hlen2]; omega
        · have h8 : Only [g0] w w8 := ((hO6.weaken (bs' := [g0]) (by simp)).mem c2 (by simp)).mem d2 (by simp)
          exact h8.p fun b hb => .inl (by simp only [List.mem_singleton] at hb; rw [hb])
end Go.Proofs.Ytbklgfggodgddaa.Con
