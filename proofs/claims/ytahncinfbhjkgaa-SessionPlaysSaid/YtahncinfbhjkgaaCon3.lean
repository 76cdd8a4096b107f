/-
  Own work: what the functions of the session package do: Expire (with IndexFunc and DeleteFunc), copies, List, New, Next, Restore.
-/
import Derived.Test.YtahncinfbhjkgaaCon2
namespace Go.Proofs.Ytahncinfbhjkgaa.Con
open Go Go.RowKit Go.Kt Go.Proofs.Ytahncinfbhjkgaa.Vc
set_option linter.unusedSimpArgs false
set_option linter.unusedVariables false

/-- a closure that answers p of a seat and keeps a book of its own on what it saw; it turns blocks of D alone -/
structure Closure (fid : FuncId) (cap : List Value) (p : Seat → Bool) (D : Nat → Prop) (Inv : List Seat → World → Prop) : Prop where
  en : ∀ (args : Array Value) (w : World), (callFunc fid args).run Try.prog w = .ok (.enter fid args) w
  call : ∀ (pre : List Seat) (x : Seat) (d : Sl) (w1 w4 : World), Inv pre w1 → Only [] w1 w4 → InI x.i → pre.length < 1000 →
    Calls Try.prog fid (([.agg #[.int .i64 x.i, .int .i64 x.l, Sl.v d, .int .i64 x.u]] : List Value) ++ cap).toArray w4 fun e w5 => e = .returned (.bool (p x)) ∧ OnlyP (fun k => D k ∧ k < w1.heap.size) w4 w5 ∧ Inv (pre ++ [x]) w5
  keep : ∀ (pre : List Seat) (w w' : World), Inv pre w → (∀ k, D k → k < w.heap.size → w'.heap[k]? = w.heap[k]?) → w.heap.size ≤ w'.heap.size → Inv pre w'

def findP (p : Seat → Bool) (l : List Seat) : Int := if l.findIdx p < l.length then (l.findIdx p : Int) else -1
theorem index_c {w : World} {F D : Nat → Prop} {s : Sl} {l : List Seat} (hs : Seats w F s l) (hl : l.length < 1000) (hFD : ∀ k, F k → ¬ D k) {fid : FuncId} {cap : List Value} {p : Seat → Bool} {Inv : List Seat → World → Prop} (hc : Closure fid cap p D Inv) (hI : Inv [] w) :
    Calls Try.prog 41 #[Sl.v s, .func (.func fid) #[] cap.toArray] w fun e w' => e = .returned (.int .i64 (findP p l)) ∧ OnlyP D w w' ∧ Inv (l.take (l.findIdx p + 1)) w' := by
  refine ret (slices_IndexFunc_api_Seat_wp s _ (fun v w' => v = .int .i64 (findP p l) ∧ OnlyP D w w' ∧ Inv (l.take (l.findIdx p + 1)) w') w ?_)
  unfold slices_IndexFunc_api_Seat_vc
  have hlen := hs.len
  refine ⟨fun nv t w' => ∃ n : Nat, n ≤ l.length ∧ t = (n : Int) ∧ nv = l.length - n ∧ (∀ j (hj : j < l.length), j < n → p l[j] = false) ∧ OnlyP D w w' ∧ Inv (l.take n) w', l.length, ⟨0, Nat.zero_le _, rfl, rfl, fun j _ h => by omega, OnlyP.refl _ _, by simpa using hI⟩, ?_⟩
  rintro nv _ w1 ⟨n, hn, rfl, rfl, hp, hO, hv⟩
  refine ⟨fun hc1 => ?_, fun hc1 => ?_⟩
  · have hlt : (n : Int) < s.n := of_decide_eq_true hc1
    have hn' : n < l.length := by omega
    obtain ⟨ad, x, cs, g1, g2, g3, g4, g5, d, rfl, g6⟩ := (SliceF.onlyP rSeat_ok (by decide) hs hO (fun k hk _ => hFD k hk)).get (Int.natCast_nonneg n) hlt
    rw [Int.toNat_natCast, List.getElem?_eq_getElem hn'] at g2
    injection g2 with g2
    subst g2
    refine ⟨ad, g1, _, _, d, _, g5, fid, cap, rfl, hc.en, (hc.call _ _ d w1 w1 hv (Only.refl _ _) g6.i (by rw [List.length_take]; omega)).mono ?_⟩
    rintro _ w2 ⟨rfl, hO2, hv2⟩
    have htk : l.take n ++ [l[n]] = l.take (n + 1) := by rw [List.take_add_one, List.getElem?_eq_getElem hn']; rfl
    rw [htk] at hv2
    have hO02 := hO.trans (hO2.mono fun k _ hk => hk.1) fun k hk => .inl hk
    refine ⟨_, rfl, fun ht => ?_, fun hf => ?_⟩
    · have : l.findIdx p = n := (List.findIdx_eq hn').2 ⟨ht, fun j hj => hp j (by omega) hj⟩
      rw [this]
      exact ⟨by simp only [findP, this, if_pos hn'], hO02, hv2⟩
    · rw [wr' (x := (n : Int) + 1) (by omega) (by omega)]
      refine ⟨l.length - (n + 1), by omega, n + 1, by omega, by omega, rfl, fun j hj hjn => ?_, hO02, hv2⟩
      by_cases hj2 : j < n
      · exact hp j hj hj2
      · have : j = n := by omega
        subst this
        exact hf
  · have hge : ¬ ((n : Int) < s.n) := of_decide_eq_false hc1
    have : l.findIdx p = l.length := List.findIdx_eq_length.2 fun x hx => by
      obtain ⟨j, hj, rfl⟩ := List.getElem_of_mem hx
      exact hp j hj (by omega)
    refine ⟨by simp only [findP, this, Nat.lt_irrefl, if_false], hO, ?_⟩
    rw [this, List.take_of_length_le (by omega)]
    rwa [List.take_of_length_le (by omega)] at hv

theorem filter_take_none {p : Seat → Bool} {l : List Seat} {i : Nat} (h : ∀ j (hj : j < l.length), j < i → p l[j] = false) : (l.take i).filter (fun x => !p x) = l.take i := by
  rw [List.filter_eq_self]
  intro x hx
  obtain ⟨j, hj, rfl⟩ := List.getElem_of_mem hx
  rw [List.length_take] at hj
  rw [List.getElem_take, h j (by omega) (by omega)]; rfl

theorem delete_c {w : World} {F D : Nat → Prop} {s : Sl} {l : List Seat} (hs : Own rSeat 4 49 0 w F s l) (hl : l.length < 1000) (hFD : ∀ k, F k ∨ s.a = some ⟨k, 0, none⟩ → ¬ D k) (hD : ∀ k, D k → k < w.heap.size ∨ w.heap.size ≤ k) {fid : FuncId} {cap : List Value} {p : Seat → Bool} {Inv : List Seat → World → Prop} (hc : Closure fid cap p D Inv) (hI : Inv [] w) :
    Calls Try.prog 31 #[Sl.v s, .func (.func fid) #[] cap.toArray] w fun e w' => ∃ s', e = .returned (Sl.v s') ∧ s'.a = s.a ∧ Own rSeat 4 49 0 w' F s' (l.filter fun x => !p x) ∧ OnlyP (fun k => D k ∨ s.a = some ⟨k, 0, none⟩) w w' ∧ Inv l w' := by
  refine (slices_DeleteFunc_api_Seat_wp s _ (fun v w' => ∃ s', v = Sl.v s' ∧ s'.a = s.a ∧ Own rSeat 4 49 0 w' F s' (l.filter fun x => !p x) ∧ OnlyP (fun k => D k ∨ s.a = some ⟨k, 0, none⟩) w w' ∧ Inv l w') w ?_).mono (by
    rintro e w' ⟨v, rfl, s', rfl, h⟩; exact ⟨s', rfl, h⟩)
  unfold slices_DeleteFunc_api_Seat_vc
  have hlen := hs.len
  have hcap := hs.cap
  have hsl := hs.slice rSeat_ok
  refine (index_c (D := D) (hsl.mono rSeat_ok (G := fun k => F k ∨ s.a = some ⟨k, 0, none⟩) fun k hk => hk.imp id fun h => h.2) hl hFD hc hI).mono ?_
  rintro _ w1 ⟨rfl, hO1, hv1⟩
  have keepO : ∀ {w w' : World} {xs : List Seat}, Own rSeat 4 49 0 w F s xs → OnlyP D w w' → Own rSeat 4 49 0 w' F s xs := fun h hO => h.keep rSeat_ok fun k hk hlt => hO.block k hlt (hFD k (hk.imp id fun h => h.2))
  refine ⟨_, rfl, fun hc1 => ?_, fun hc1 => ?_⟩
  · have hno : l.findIdx p = l.length := by
      by_cases h : l.findIdx p < l.length
      · simp only [findP, if_pos h, beq_iff_eq] at hc1; omega
      · have := List.findIdx_le_length (xs := l) (p := p); omega
    have hf : l.filter (fun x => !p x) = l := by
      rw [List.filter_eq_self]
      intro x hx
      have := List.findIdx_eq_length.1 hno x hx
      rw [this]; rfl
    rw [hf]
    rw [hno, List.take_of_length_le (by omega)] at hv1
    exact ⟨s, rfl, rfl, keepO hs hO1, hO1.mono fun k _ hk => .inl hk, hv1⟩
  · have hyes : l.findIdx p < l.length := by
      by_cases h : l.findIdx p < l.length
      · exact h
      · exfalso
        simp only [findP, if_neg h] at hc1
        exact absurd hc1 (by decide)
    have hfp : findP p l = (l.findIdx p : Int) := by simp only [findP, if_pos hyes]
    rw [hfp, wr' (x := (l.findIdx p : Int) + 1) (by omega) (by omega)]
    have hpre : ∀ j (hj : j < l.length), j < l.findIdx p → p l[j] = false := fun j hj hji => by
      have := List.not_of_lt_findIdx hji
      simpa using this
    have hpi : p l[l.findIdx p] = true := List.findIdx_getElem (w := hyes)
    generalize l.findIdx p = i0 at *
    refine ⟨fun nv i j w' => ∃ (a b : Nat) (ys : List Seat), i = (a : Int) ∧ j = (b : Int) ∧ a < b ∧ b ≤ l.length ∧ nv = l.length - b ∧ ys.length = l.length ∧ ys.take a = (l.take b).filter (fun x => !p x) ∧ ys.drop b = l.drop b ∧ Own rSeat 4 49 0 w' F s ys ∧ OnlyP (fun k => D k ∨ s.a = some ⟨k, 0, none⟩) w w' ∧ Inv (l.take b) w', l.length - (i0 + 1),
      ⟨i0, i0 + 1, l, rfl, by omega, by omega, by omega, rfl, rfl, ?_, rfl, keepO hs hO1, hO1.mono fun k _ hk => .inl hk, hv1⟩, ?_⟩
    · have : l.take (i0 + 1) = l.take i0 ++ [l[i0]] := by rw [List.take_add_one, List.getElem?_eq_getElem hyes]; rfl
      rw [this, List.filter_append, filter_take_none hpre]
      simp [hpi]
    · rintro nv _ _ w2 ⟨a, b, ys, rfl, rfl, hab, hbl, rfl, hyl, hya, hyb, hown, hO2, hv2⟩
      refine ⟨fun hc2 => ?_, fun hc2 => ?_⟩
      · have hc2 : (b : Int) < s.n := of_decide_eq_true hc2
        have hb' : b < l.length := by omega
        rw [wr' (x := (b : Int) + 1) (by omega) (by omega)]
        have hyb' : ys[b]? = some l[b] := by
          have := congrArg List.head? hyb
          rw [List.head?_drop, List.head?_drop, List.getElem?_eq_getElem hb'] at this
          exact this
        have htk : l.take (b + 1) = l.take b ++ [l[b]] := by rw [List.take_add_one, List.getElem?_eq_getElem hb']; rfl
        have hdr : ys.drop (b + 1) = l.drop (b + 1) := by
          have := congrArg (List.drop 1) hyb
          simpa [List.drop_drop] using this
        refine ⟨fun i1 w' => ∃ (a' : Nat) (ys' : List Seat), i1 = (a' : Int) ∧ a' < b + 1 ∧ ys'.length = l.length ∧ ys'.take a' = (l.take (b + 1)).filter (fun x => !p x) ∧ ys'.drop (b + 1) = l.drop (b + 1) ∧ Own rSeat 4 49 0 w' F s ys' ∧ OnlyP (fun k => D k ∨ s.a = some ⟨k, 0, none⟩) w w' ∧ Inv (l.take (b + 1)) w', ?_, ?_⟩
        · rintro _ w3 ⟨a', ys', rfl, h1, h2, h3, h4, h5, h6, h7⟩
          exact ⟨l.length - (b + 1), by omega, a', b + 1, ys', rfl, by omega, h1, by omega, rfl, h2, h3, h4, h5, h6, h7⟩
        · obtain ⟨ad, x, cs, g1, g2, g3, g4, g5, d, rfl, g6⟩ := (hown.slice rSeat_ok).get (i := (b : Int)) (by omega) hc2
          rw [Int.toNat_natCast, hyb'] at g2
          injection g2 with g2
          refine ⟨ad, g1, _, _, d, _, g5, fun bb w4 hbb1 hbb2 hO4 => ⟨fid, cap, rfl, hc.en, (hc.call _ x d w2 w4 hv2 hO4 g6.i (by rw [List.length_take]; omega)).mono ?_⟩⟩
          rintro _ w5 ⟨rfl, hO5, hv5⟩
          have hs5 := hO5.size
          have hs4 := hO4.size
          rw [← g2, ← htk] at hv5
          have hO5' : OnlyP D w4 w5 := hO5.mono fun k _ hk => hk.1
          have hown5 : Own rSeat 4 49 0 w5 F s ys := keepO (hown.keep rSeat_ok fun k hk hlt => hO4.block k hlt (by simp)) hO5'
          have hO05 : OnlyP (fun k => D k ∨ s.a = some ⟨k, 0, none⟩) w w5 := (hO2.tr0 hO4).trans hO5' fun k hk => .inl (.inl hk)
          refine ⟨_, rfl, hO5.same (by simp only [List.mem_singleton]; rintro _ rfl; exact ⟨hbb2, fun h => by omega⟩), fun hp1 => ?_, fun hp1 => ?_⟩
          · have hp1 : p x = false := by simpa using hp1
            have hg6 : SeatAt w5 (fun k => (F k ∨ 0 ≤ k ∧ s.a = some ⟨k, 0, none⟩) ∧ k < w2.heap.size) x d := by
              obtain ⟨e1, e2, e3, e4, e5⟩ := g6
              exact ⟨e1, e2, e3, SliceF.onlyP rByte_ok (by decide) (SliceF.only rByte_ok (by decide) (e4.inHeap rByte_ok (by decide)) hO4 (by simp)) hO5' (fun k hk _ => hFD k (hk.1.imp id fun h => h.2)), e5⟩
            have hns : SeatAt w5 (fun k => F k ∧ s.a ≠ some ⟨k, 0, none⟩) x d := by
              rcases hown5 with ⟨rfl, rfl⟩ | ⟨g, css, tail, a1, a2, a4, a5, a6, a7, a9, a8⟩
              · simp at hyb'
              obtain ⟨cs', z1, z2, z3⟩ := a8.get hyb'
              obtain ⟨d', z4, z5⟩ := z3
              have hcell : Cells w5 ad [.int .i64 x.i, .int .i64 x.l, Sl.v d, .int .i64 x.u] := (g5.keep (hO4.block _ g5.lt (by simp))).keep (hO5'.block _ (by have := g5.lt; omega) (hFD _ (g3.imp id fun h => h.2)))
              obtain ⟨base, y1, _, _, y2⟩ := g1
              rw [a1] at y1
              injection y1 with y1
              subst y1
              rw [Int.toNat_natCast, addr_lit] at y2
              subst y2
              have hz : Cells w5 ⟨g, 0 + b * 4, none⟩ cs' := a4.cells _ _ fun j v hj => by
                have := flat_at (Els.sz a8) z1 hj
                rw [Nat.zero_add, List.getElem?_append_left (List.getElem?_eq_some_iff.1 this).1]
                exact this
              rw [g2] at z4 z5
              subst z4
              have hd1 := hz 2 d'.v rfl
              have hd2 := hcell 2 d.v rfl
              rw [hd1] at hd2
              injection hd2 with hd2
              have hdd : d' = d := by
                cases d'; cases d
                simp only [Sl.v, Value.slice.injEq] at hd2
                obtain ⟨e1, e2, e3⟩ := hd2
                subst e1 e2 e3
                rfl
              subst hdd
              obtain ⟨e1, e2, e3, e4, e5⟩ := z5
              exact ⟨e1, e2, e3, e4.mono rByte_ok fun k hk => ⟨hk.1, fun ha => by rw [a1] at ha; injection ha with ha; injection ha with ha; exact hk.2 ha.symm⟩, e5⟩
            obtain ⟨g, cells, p1, p2, p3, p4, p5⟩ := Own.store (x := x) (n := a) (vs := [.int .i64 x.i, .int .i64 x.l, Sl.v d, .int .i64 x.u]) rSeat_ok hown5 (by omega) rfl ⟨d, rfl, hns⟩ (fun k hk _ => hk) (by decide)
            refine ⟨_, p2, g, a * 4, cells, _, rfl, p3, p4, ?_, fun w6 hO6 hb6 => ?_⟩
            · intro e
              subst e
              have := (hown.blk p1).2
              dsimp only at this
              omega
            have hDg : ¬ D g := hFD g (.inr p1)
            rw [wr' (x := (a : Int) + 1) (by omega) (by omega)]
            refine ⟨a + 1, ys.set a x, by omega, by omega, by rw [List.length_set]; exact hyl, ?_, ?_, p5 w6 hO6 hb6, hO05.trans (hO6.p (F := fun k => s.a = some ⟨k, 0, none⟩) fun k hk => .inl (by simp only [List.mem_singleton] at hk; rw [hk]; exact p1)) fun k hk => .inl (.inr hk), hc.keep _ _ _ hv5 (fun k hk hlt => hO6.block k hlt (by simp only [List.mem_singleton]; rintro rfl; exact hDg hk)) hO6.size⟩
            · rw [List.take_add_one, List.take_set_of_le (Nat.le_refl _), hya, List.getElem?_set_self (by omega), htk, List.filter_append, g2]
              simp [hp1]
            · rw [List.drop_set_of_lt (by omega)]; exact hdr
          · have hp1 : p x = true := by simpa using hp1
            refine ⟨a, ys, rfl, by omega, hyl, ?_, hdr, hown5, hO05, hv5⟩
            rw [htk, List.filter_append, g2, hya]
            simp [hp1]
      · have hc2 : ¬ (b : Int) < s.n := of_decide_eq_false hc2
        have hbl' : b = l.length := by omega
        subst hbl'
        rw [List.take_of_length_le (Nat.le_refl _)] at hya hv2
        obtain ⟨w3, g, k1, k2, k3, k4⟩ := Own.clear (P := Try.prog) (t := 42) (ty := 0) (i := a) rSeat_ok (by decide) (by kernel_rfl) (fun w => Try.zeroValue49 w) (by intro v hv; simp [Value.cells] at hv; rcases hv with rfl | rfl | rfl | rfl <;> rfl) rfl hown (by omega)
        have hDg : ¬ D g := hFD g (.inr k2)
        refine ⟨a, ⟨rfl, by omega, hcap, Nat.le_refl _⟩, w3, k1, a, ⟨rfl, Nat.zero_le _, by omega, Nat.le_refl _⟩, _, rfl, ?_, by rw [← hya]; exact k4, hO2.trans (k3.p (F := fun k => s.a = some ⟨k, 0, none⟩) fun k hk => .inl (by simp only [List.mem_singleton] at hk; rw [hk]; exact k2)) fun k hk => .inl (.inr hk), hc.keep _ _ _ hv2 (fun k hk hlt => k3.block k hlt (by simp only [List.mem_singleton]; rintro rfl; exact hDg hk)) k3.size⟩
        simp only [Sl.cut]
        split
        · rfl
        · rw [k2]; rfl
end Go.Proofs.Ytahncinfbhjkgaa.Con
