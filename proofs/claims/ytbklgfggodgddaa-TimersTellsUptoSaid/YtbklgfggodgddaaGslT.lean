/-
  Own work: what the functions of the slices package do at elements that are plain cells ('Tim'): Clone, IndexFunc, DeleteFunc, BinarySearchFunc.
-/
import Derived.Test.YtbklgfggodgddaaCon
namespace Go.Proofs.Ytbklgfggodgddaa.Con
open Go Go.RowKit Go.Kt Go.Kt.V Go.Proofs.Ytbklgfggodgddaa.Vc
set_option linter.unusedSimpArgs false
set_option linter.unusedVariables false

theorem clone_T {w : World} {F : Nat → Prop} {s : Sl} {l : List Tim} (h : SliceF rTim 3 w F s l) (hm : l.length * 24 ≤ 140737488355328) :
    Calls Try.prog 19 #[Sl.v s] w fun e w' => ∃ s' : Sl, e = .returned s'.v ∧ Own rTim 3 24 w.heap.size w' F s' l ∧ Only [] w w' := by
  refine (slices_Clone_api_Timer_wp s (fun v w' => ∃ s' : Sl, v = s'.v ∧ Own rTim 3 24 w.heap.size w' F s' l ∧ Only [] w w') w ?_).mono (by
    rintro e w' ⟨v, rfl, s', rfl, h⟩; exact ⟨s', rfl, h⟩)
  unfold slices_Clone_api_Timer_vc
  refine ⟨fun hc => ?_, fun hc => ?_⟩
  · have := nil_of h (by simpa using hc)
    subst this
    exact ⟨Sl.nil, rfl, Own.nil _ _ _ _ _ _, Only.refl _ _⟩
  · obtain ⟨x1, w1, k1, x2, w2, k2, k3, k4, k5⟩ := clone_own (P := Try.prog) (t := 22) (ty := 22) (e := 24) (i := Try.t24) (bytes := 24) (by kernel_rfl) (by kernel_rfl) rfl rfl rfl rfl (by decide) rTim_ok h hm (by decide)
    exact ⟨x1, w1, k1, x2, w2, k2, x2, rfl, k3, k4⟩

/-- a closure that answers p of an element and keeps a book of its own on what it saw; it turns blocks of T alone and rests on those of D -/
structure Clos_T (fid : FuncId) (cap : List Value) (p : Tim → Bool) (D T : Nat → Prop) (Inv : List Tim → World → Prop) : Prop where
  sub : ∀ k, T k → D k
  en : ∀ (args : Array Value) (w : World), (callFunc fid args).run Try.prog w = .ok (.enter fid args) w
  call : ∀ (pre : List Tim) (x : Tim) (w1 w4 : World), Inv pre w1 → Only [] w1 w4 → Tim.ok x → pre.length < 140737488355328 →
    Calls Try.prog fid ((.agg (Tim.cs x).toArray :: cap) : List Value).toArray w4 fun e w5 => e = .returned (.bool (p x)) ∧ OnlyP (fun k => T k ∧ k < w1.heap.size) w4 w5 ∧ Inv (pre ++ [x]) w5
  keep : ∀ (pre : List Tim) (w w' : World), Inv pre w → (∀ k, D k → k < w.heap.size → w'.heap[k]? = w.heap[k]?) → w.heap.size ≤ w'.heap.size → Inv pre w'
def findP_T (p : Tim → Bool) (l : List Tim) : Int := if l.findIdx p < l.length then (l.findIdx p : Int) else -1
theorem index_T {w : World} {F D T : Nat → Prop} {s : Sl} {l : List Tim} (hs : SliceF rTim 3 w F s l) (hl : l.length < 140737488355328) (hFD : ∀ k, F k → ¬ D k) {fid : FuncId} {cap : List Value} {p : Tim → Bool} {Inv : List Tim → World → Prop} (hc : Clos_T fid cap p D T Inv) (hI : Inv [] w) {f : OV} (hf : f.v = .func (.func fid) #[] cap.toArray) :
    Calls Try.prog 30 #[Sl.v s, f.v] w fun e w' => e = .returned (.int .i64 (findP_T p l)) ∧ OnlyP T w w' ∧ Inv (l.take (l.findIdx p + 1)) w' := by
  refine ret (slices_IndexFunc_api_Timer_wp s f (fun v w' => v = .int .i64 (findP_T p l) ∧ OnlyP T w w' ∧ Inv (l.take (l.findIdx p + 1)) w') w ?_)
  unfold slices_IndexFunc_api_Timer_vc
  have hlen := hs.len
  refine ⟨fun nv t w' => ∃ n : Nat, n ≤ l.length ∧ t = (n : Int) ∧ nv = l.length - n ∧ (∀ j (hj : j < l.length), j < n → p l[j] = false) ∧ OnlyP T w w' ∧ Inv (l.take n) w', l.length, ⟨0, Nat.zero_le _, rfl, rfl, fun j _ h => by omega, OnlyP.refl _ _, by simpa using hI⟩, ?_⟩
  rintro nv _ w1 ⟨n, hn, rfl, rfl, hp, hO, hv⟩
  refine ⟨fun hc1 => ?_, fun hc1 => ?_⟩
  · have hlt : (n : Int) < s.n := of_decide_eq_true hc1
    have hn' : n < l.length := by omega
    obtain ⟨ad, x, cs, g1, g2, g3, g4, g5, rfl, g6⟩ := (SliceF.onlyP rTim_ok (by decide) hs hO (fun k hk _ ht => hFD k hk (hc.sub k ht))).get (Int.natCast_nonneg n) hlt
    rw [Int.toNat_natCast, List.getElem?_eq_getElem hn'] at g2
    injection g2 with g2
    subst g2
    refine ⟨ad, g1, _, _, _, g5, fid, cap, hf, hc.en, (hc.call _ _ w1 w1 hv (Only.refl _ _) g6 (by rw [List.length_take]; omega)).mono ?_⟩
    rintro _ w2 ⟨rfl, hO2, hv2⟩
    have htk : l.take n ++ [l[n]] = l.take (n + 1) := by rw [List.take_add_one, List.getElem?_eq_getElem hn']; rfl
    rw [htk] at hv2
    have hO02 := hO.trans (hO2.mono fun k _ hk => hk.1) fun k hk => .inl hk
    refine ⟨_, rfl, fun ht => ?_, fun hf => ?_⟩
    · have : l.findIdx p = n := (List.findIdx_eq hn').2 ⟨ht, fun j hj => hp j (by omega) hj⟩
      rw [this]
      exact ⟨by simp only [findP_T, this, if_pos hn'], hO02, hv2⟩
    · rw [wr' (x := (n : Int) + 1) (by omega) (by omega)]
      refine ⟨l.length - (n + 1), by omega, n + 1, by omega, by omega, rfl, fun j hj hjn => ?_, hO02, hv2⟩
      by_cases hj2 : j < n
      · exact hp j hj hj2
      · have : j = n := by omega
        subst this
        exact hf
  · have hge : ¬ ((n : Int) < s.n) := of_decide_eq_false hc1
    have : l.findIdx p = l.length := List.findIdx_eq_length.2 fun x hx => by
      obtain ⟨j, hj, rfl⟩ := List.getElem_of_mem hx
      exact hp j hj (by omega)
    refine ⟨by simp only [findP_T, this, Nat.lt_irrefl, if_false], hO, ?_⟩
    rw [this, List.take_of_length_le (by omega)]
    rwa [List.take_of_length_le (by omega)] at hv

theorem filter_take_T {p : Tim → Bool} {l : List Tim} {i : Nat} (h : ∀ j (hj : j < l.length), j < i → p l[j] = false) : (l.take i).filter (fun x => !p x) = l.take i := by
  rw [List.filter_eq_self]
  intro x hx
  obtain ⟨j, hj, rfl⟩ := List.getElem_of_mem hx
  rw [List.length_take] at hj
  rw [List.getElem_take, h j (by omega) (by omega)]; rfl
theorem delete_T {w : World} {F D T : Nat → Prop} {s : Sl} {l : List Tim} {B : Nat} (hs : Own rTim 3 24 B w F s l) (hl : l.length < 140737488355328) (hFD : ∀ k, s.a = some ⟨k, 0, none⟩ → ¬ D k) {fid : FuncId} {cap : List Value} {p : Tim → Bool} {Inv : List Tim → World → Prop} (hc : Clos_T fid cap p D T Inv) (hI : Inv [] w) {f : OV} (hf : f.v = .func (.func fid) #[] cap.toArray) :
    Calls Try.prog 20 #[Sl.v s, f.v] w fun e w' => ∃ s', e = .returned (Sl.v s') ∧ s'.a = s.a ∧ s'.c = s.c ∧ Own rTim 3 24 B w' F s' (l.filter fun x => !p x) ∧ OnlyP (fun k => T k ∨ s.a = some ⟨k, 0, none⟩) w w' ∧ Inv l w' := by
  refine (slices_DeleteFunc_api_Timer_wp s f (fun v w' => ∃ s', v = Sl.v s' ∧ s'.a = s.a ∧ s'.c = s.c ∧ Own rTim 3 24 B w' F s' (l.filter fun x => !p x) ∧ OnlyP (fun k => T k ∨ s.a = some ⟨k, 0, none⟩) w w' ∧ Inv l w') w ?_).mono (by
    rintro e w' ⟨v, rfl, s', rfl, h⟩; exact ⟨s', rfl, h⟩)
  unfold slices_DeleteFunc_api_Timer_vc
  have hlen := hs.len
  have hcap := hs.cap
  have hs : Own rTim 3 24 B w (fun _ => False) s l := by
    rcases hs with h | ⟨g, css, tail, a1, a2, a4, a5, a6, a7, a9, a8⟩
    · exact .inl h
    · exact .inr ⟨g, css, tail, a1, a2, a4, a5, a6, a7, a9, All2.imp (fun _ _ h => h) a8⟩
  have up : ∀ {w : World} {s : Sl} {l : List Tim}, Own rTim 3 24 B w (fun _ => False) s l → Own rTim 3 24 B w F s l := fun h => h.mono rTim_ok fun k hk => hk.elim
  have hsl := hs.slice rTim_ok
  refine (index_T (hsl.mono rTim_ok (G := fun k => s.a = some ⟨k, 0, none⟩) fun k hk => hk.elim False.elim fun h => h.2) hl hFD hc hI hf).mono ?_
  rintro _ w1 ⟨rfl, hO1, hv1⟩
  have keepO : ∀ {w w' : World} {xs : List Tim}, Own rTim 3 24 B w (fun _ => False) s xs → OnlyP T w w' → Own rTim 3 24 B w' (fun _ => False) s xs := fun h hO => h.keep rTim_ok fun k hk hlt => hO.block k hlt (fun ht => hFD k (hk.elim False.elim fun h => h.2) (hc.sub k ht))
  refine ⟨_, rfl, fun hc1 => ?_, fun hc1 => ?_⟩
  · have hno : l.findIdx p = l.length := by
      by_cases h : l.findIdx p < l.length
      · simp only [findP_T, if_pos h, beq_iff_eq] at hc1; omega
      · have := List.findIdx_le_length (xs := l) (p := p); omega
    have hf : l.filter (fun x => !p x) = l := by
      rw [List.filter_eq_self]
      intro x hx
      have := List.findIdx_eq_length.1 hno x hx
      rw [this]; rfl
    rw [hf]
    rw [hno, List.take_of_length_le (by omega)] at hv1
    exact ⟨s, rfl, rfl, rfl, up (keepO hs hO1), hO1.mono fun k _ hk => .inl hk, hv1⟩
  · have hyes : l.findIdx p < l.length := by
      by_cases h : l.findIdx p < l.length
      · exact h
      · exfalso
        simp only [findP_T, if_neg h] at hc1
        exact absurd hc1 (by decide)
    have hfp : findP_T p l = (l.findIdx p : Int) := by simp only [findP_T, if_pos hyes]
    rw [hfp, wr' (x := (l.findIdx p : Int) + 1) (by omega) (by omega)]
    have hpre : ∀ j (hj : j < l.length), j < l.findIdx p → p l[j] = false := fun j hj hji => by
      have := List.not_of_lt_findIdx hji
      simpa using this
    have hpi : p l[l.findIdx p] = true := List.findIdx_getElem (w := hyes)
    generalize l.findIdx p = i0 at *
    refine ⟨fun nv i j w' => ∃ (a b : Nat) (ys : List Tim), i = (a : Int) ∧ j = (b : Int) ∧ a < b ∧ b ≤ l.length ∧ nv = l.length - b ∧ ys.length = l.length ∧ ys.take a = (l.take b).filter (fun x => !p x) ∧ ys.drop b = l.drop b ∧ Own rTim 3 24 B w' (fun _ => False) s ys ∧ OnlyP (fun k => T k ∨ s.a = some ⟨k, 0, none⟩) w w' ∧ Inv (l.take b) w', l.length - (i0 + 1),
      ⟨i0, i0 + 1, l, rfl, by omega, by omega, by omega, rfl, rfl, ?_, rfl, keepO hs hO1, hO1.mono fun k _ hk => .inl hk, hv1⟩, ?_⟩
    · have : l.take (i0 + 1) = l.take i0 ++ [l[i0]] := by rw [List.take_add_one, List.getElem?_eq_getElem hyes]; rfl
      rw [this, List.filter_append, filter_take_T hpre]
      simp [hpi]
    · rintro nv _ _ w2 ⟨a, b, ys, rfl, rfl, hab, hbl, rfl, hyl, hya, hyb, hown, hO2, hv2⟩
      refine ⟨fun hc2 => ?_, fun hc2 => ?_⟩
      · have hc2 : (b : Int) < s.n := of_decide_eq_true hc2
        have hb' : b < l.length := by omega
        rw [wr' (x := (b : Int) + 1) (by omega) (by omega)]
        have hyb' : ys[b]? = some l[b] := by
          have := congrArg List.head? hyb
          rw [List.head?_drop, List.head?_drop, List.getElem?_eq_getElem hb'] at this
          exact this
        have htk : l.take (b + 1) = l.take b ++ [l[b]] := by rw [List.take_add_one, List.getElem?_eq_getElem hb']; rfl
        have hdr : ys.drop (b + 1) = l.drop (b + 1) := by
          have := congrArg (List.drop 1) hyb
          simpa [List.drop_drop] using this
        refine ⟨fun i1 w' => ∃ (a' : Nat) (ys' : List Tim), i1 = (a' : Int) ∧ a' < b + 1 ∧ ys'.length = l.length ∧ ys'.take a' = (l.take (b + 1)).filter (fun x => !p x) ∧ ys'.drop (b + 1) = l.drop (b + 1) ∧ Own rTim 3 24 B w' (fun _ => False) s ys' ∧ OnlyP (fun k => T k ∨ s.a = some ⟨k, 0, none⟩) w w' ∧ Inv (l.take (b + 1)) w', ?_, ?_⟩
        · rintro _ w3 ⟨a', ys', rfl, h1, h2, h3, h4, h5, h6, h7⟩
          exact ⟨l.length - (b + 1), by omega, a', b + 1, ys', rfl, by omega, h1, by omega, rfl, h2, h3, h4, h5, h6, h7⟩
        · obtain ⟨ad, x, cs, g1, g2, g3, g4, g5, rfl, g6⟩ := (hown.slice rTim_ok).get (i := (b : Int)) (by omega) hc2
          rw [Int.toNat_natCast, hyb'] at g2
          injection g2 with g2
          refine ⟨ad, g1, _, _, _, g5, fun bb w4 hbb1 hbb2 hO4 => ⟨fid, cap, hf, hc.en, (hc.call _ x w2 w4 hv2 hO4 g6 (by rw [List.length_take]; omega)).mono ?_⟩⟩
          rintro _ w5 ⟨rfl, hO5, hv5⟩
          have hs5 := hO5.size
          have hs4 := hO4.size
          rw [← g2, ← htk] at hv5
          have hO5' : OnlyP T w4 w5 := hO5.mono fun k _ hk => hk.1
          have hown5 : Own rTim 3 24 B w5 (fun _ => False) s ys := keepO (hown.keep rTim_ok fun k hk hlt => hO4.block k hlt (by simp)) hO5'
          have hO05 : OnlyP (fun k => T k ∨ s.a = some ⟨k, 0, none⟩) w w5 := (hO2.tr0 hO4).trans hO5' fun k hk => .inl (.inl hk)
          refine ⟨_, rfl, hO5.same (by simp only [List.mem_singleton]; rintro _ rfl; exact ⟨hbb2, fun h => by omega⟩), fun hp1 => ?_, fun hp1 => ?_⟩
          · have hp1 : p x = false := by simpa using hp1
            obtain ⟨g, cells, p1, p2, p3, p4, p5⟩ := Own.store (x := x) (n := a) (vs := Tim.cs x) (G := fun _ => False) rTim_ok hown5 (by omega) rfl ⟨rfl, g6⟩ (fun k hk _ => hk.elim) (by decide)
            refine ⟨_, p2, g, a * 3, cells, _, rfl, p3, p4, ?_, fun w6 hO6 hb6 => ?_⟩
            · intro e
              subst e
              have := (hown.blk p1).2
              dsimp only at this
              omega
            have hDg : ¬ D g := hFD g p1
            rw [wr' (x := (a : Int) + 1) (by omega) (by omega)]
            refine ⟨a + 1, ys.set a x, by omega, by omega, by rw [List.length_set]; exact hyl, ?_, ?_, p5 w6 hO6 hb6, hO05.trans (hO6.p (F := fun k => s.a = some ⟨k, 0, none⟩) fun k hk => .inl (by simp only [List.mem_singleton] at hk; rw [hk]; exact p1)) fun k hk => .inl (.inr hk), hc.keep _ _ _ hv5 (fun k hk hlt => hO6.block k hlt (by simp only [List.mem_singleton]; rintro rfl; exact hDg hk)) hO6.size⟩
            · rw [List.take_add_one, List.take_set_of_le (Nat.le_refl _), hya, List.getElem?_set_self (by omega), htk, List.filter_append, g2]
              simp [hp1]
            · rw [List.drop_set_of_lt (by omega)]; exact hdr
          · have hp1 : p x = true := by simpa using hp1
            refine ⟨a, ys, rfl, by omega, hyl, ?_, hdr, hown5, hO05, hv5⟩
            rw [htk, List.filter_append, g2, hya]
            simp [hp1]
      · have hc2 : ¬ (b : Int) < s.n := of_decide_eq_false hc2
        have hbl' : b = l.length := by omega
        subst hbl'
        rw [List.take_of_length_le (Nat.le_refl _)] at hya hv2
        obtain ⟨w3, g, k1, k2, k3, k4⟩ := Own.clear (P := Try.prog) (t := 22) (ty := 0) (i := a) rTim_ok (by decide) (by kernel_rfl) (fun w => Try.zeroValue24 w) (by intro v hv; simp [Value.cells] at hv; rcases hv with rfl | rfl | rfl <;> rfl) rfl hown (by omega)
        have hDg : ¬ D g := hFD g k2
        refine ⟨a, ⟨rfl, by omega, hcap⟩, w3, k1, a, ⟨rfl, by omega⟩, _, rfl, ?_, ?_, by rw [← hya]; exact up k4, hO2.trans (k3.p (F := fun k => s.a = some ⟨k, 0, none⟩) fun k hk => .inl (by simp only [List.mem_singleton] at hk; rw [hk]; exact k2)) fun k hk => .inl (.inr hk), hc.keep _ _ _ hv2 (fun k hk hlt => k3.block k hlt (by simp only [List.mem_singleton]; rintro rfl; exact hDg hk)) k3.size⟩
        · simp only [Sl.cut]
          split
          · rfl
          · rw [k2]; rfl
        · exact Nat.sub_zero _
end Go.Proofs.Ytbklgfggodgddaa.Con
