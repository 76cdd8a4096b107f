/-
  Own work: what the functions of the session package do, each once, against plain functions of lists.
-/
import Derived.Test.YtahncinfbhjkgaaLent
namespace Go.Proofs.Ytahncinfbhjkgaa.Con
open Go Go.RowKit Go.Kt Go.Proofs.Ytahncinfbhjkgaa.Vc
set_option linter.unusedSimpArgs false
set_option linter.unusedVariables false

/-! ## seats -/
structure Seat where
  i : Int
  l : Int
  r : List UInt8
  u : Int
deriving DecidableEq
structure SeatAt (w : World) (F : Nat → Prop) (x : Seat) (d : Sl) : Prop where
  i : InI x.i
  l : InI x.l
  u : InI x.u
  d : SliceF rByte 1 w F d x.r
  dl : x.r.length ≤ 140737488355328
def rSeat : Rp Seat := fun w F x cs => ∃ d : Sl, cs = [.int .i64 x.i, .int .i64 x.l, d.v, .int .i64 x.u] ∧ SeatAt w F x d
theorem rSeat_ok : rSeat.Ok where
  keep := by
    rintro w w' F x cs ⟨d, h1, h2, h3, h4, h5, h6⟩ hk
    exact ⟨d, h1, h2, h3, h4, h5.keep rByte_ok (by decide) hk, h6⟩
  inHeap := by
    rintro w F x cs ⟨d, h1, h2, h3, h4, h5, h6⟩
    exact ⟨d, h1, h2, h3, h4, h5.inHeap rByte_ok (by decide), h6⟩
  mono := by
    rintro w F G x cs ⟨d, h1, h2, h3, h4, h5, h6⟩ hk
    exact ⟨d, h1, h2, h3, h4, h5.mono rByte_ok hk, h6⟩
  one := by
    rintro w F x cs ⟨d, rfl, _⟩ v hv
    simp only [List.mem_cons, List.not_mem_nil, or_false] at hv
    rcases hv with rfl | rfl | rfl | rfl <;> rfl
abbrev Seats := SliceF rSeat 4

structure BookS where
  l : List Seat
  n : Int
abbrev Rising (l : List Seat) : Prop := l.Pairwise fun a b => a.i < b.i
structure BookS.Ok (x : BookS) : Prop where
  n0 : 1 ≤ x.n
  n1 : x.n ≤ 9223372036854775807
  len : x.l.length ≤ 8
  up : Rising x.l
  each : ∀ s, s ∈ x.l → 0 < s.i ∧ s.i < x.n ∧ 0 ≤ s.l ∧ s.r.length ≤ 65536 ∧ (s.l = 0 → s.r = []) ∧ 0 ≤ s.u ∧ s.u ≤ 1099511627826

/-! ## finding -/
def Found (l : List Seat) (id : Int) (k : Int) (t : Bool) : Prop := (t = true ∧ ∃ n s, k = ((n : Nat) : Int) ∧ l[n]? = some s ∧ s.i = id) ∨ (t = false ∧ ∀ s, s ∈ l → s.i ≠ id)
def findS (l : List Seat) (id : Int) : Option Seat := l.find? fun s => s.i == id
theorem find_at : ∀ {l : List Seat} {id : Int} {n : Nat} {s : Seat}, Rising l → l[n]? = some s → s.i = id → findS l id = some s
  | [], _, _, _, _, h, _ => by simp at h
  | x :: l, id, 0, s, _, h, hi => by
    simp only [List.getElem?_cons_zero, Option.some.injEq] at h
    subst h
    simp [findS, hi]
  | x :: l, id, n + 1, s, hp, h, hi => by
    simp only [List.getElem?_cons_succ] at h
    obtain ⟨h1, h2⟩ := List.pairwise_cons.1 hp
    have := h1 s (List.mem_of_getElem? h)
    rw [findS, List.find?_cons_of_neg (by simp; omega)]
    exact find_at h2 h hi
theorem find_none {l : List Seat} {id : Int} (h : ∀ s, s ∈ l → s.i ≠ id) : findS l id = none := by
  rw [findS, List.find?_eq_none]
  intro s hs
  simpa using h s hs
theorem find_mem {l : List Seat} {id : Int} {s : Seat} (h : findS l id = some s) : s ∈ l ∧ s.i = id := ⟨List.mem_of_find?_eq_some h, by simpa using List.find?_some h⟩
def setS (l : List Seat) (s : Seat) : List Seat := l.map fun x => if x.i = s.i then s else x
theorem set_at : ∀ {l : List Seat} {n : Nat} {s t : Seat}, Rising l → l[n]? = some s → t.i = s.i → l.set n t = setS l t
  | [], _, _, _, _, h, _ => by simp at h
  | x :: l, 0, s, t, hp, h, hi => by
    simp only [List.getElem?_cons_zero, Option.some.injEq] at h
    subst h
    obtain ⟨h1, h2⟩ := List.pairwise_cons.1 hp
    simp only [List.set_cons_zero, setS, List.map_cons, if_pos hi.symm, List.cons.injEq, true_and]
    symm
    rw [List.map_congr_left (g := id)]
    · simp
    · intro y hy
      have := h1 y hy
      rw [if_neg (by omega)]; rfl
  | x :: l, n + 1, s, t, hp, h, hi => by
    simp only [List.getElem?_cons_succ] at h
    obtain ⟨h1, h2⟩ := List.pairwise_cons.1 hp
    have := h1 s (List.mem_of_getElem? h)
    simp only [List.set_cons_succ, setS, List.map_cons, if_neg (show ¬ x.i = t.i by omega), List.cons.injEq, true_and]
    exact set_at h2 h hi

theorem tick_c (w : World) (now : Int) : Calls Try.prog 30 #[.int .i64 now] w fun e w' => e = .returned (.bool (decide (now ≥ 0) && decide (now ≤ 1099511627776))) ∧ Only [] w w' :=
  ret (session_tick_wp now (fun v w' => v = _ ∧ Only [] w w') w ⟨rfl, Only.refl _ _⟩)
theorem isNaN_c (w : World) (x : Int) : Calls Try.prog 44 #[.int .i64 x] w fun e w' => e = .returned (.bool false) ∧ Only [] w w' :=
  ret (cmp_isNaN_int_wp x (fun v w' => v = _ ∧ Only [] w w') w ⟨by simp, Only.refl _ _⟩)
def cmpI (x y : Int) : Int := if x < y then -1 else if x > y then 1 else 0
theorem compare_c (w : World) (x y : Int) : Calls Try.prog 40 #[.int .i64 x, .int .i64 y] w fun e w' => e = .returned (.int .i64 (cmpI x y)) ∧ Only [] w w' := by
  refine ret (cmp_Compare_int_wp x y (fun v w' => v = _ ∧ Only [] w w') w ?_)
  unfold cmp_Compare_int_vc
  refine (isNaN_c w x).mono ?_
  rintro _ w1 ⟨rfl, hO1⟩
  refine ⟨_, rfl, (isNaN_c w1 y).mono ?_⟩
  rintro _ w2 ⟨rfl, hO2⟩
  refine ⟨_, rfl, fun h => (by cases h), fun _ => ⟨fun h => (by cases h), fun _ => ⟨fun h => ⟨?_, hO1.tr0 hO2⟩, fun h => ⟨fun h2 => ⟨?_, hO1.tr0 hO2⟩, fun h2 => ⟨?_, hO1.tr0 hO2⟩⟩⟩⟩⟩
  · have h : x < y := of_decide_eq_true h
    rw [cmpI, if_pos h]
  · have h : ¬ x < y := of_decide_eq_false h
    have h2 : x > y := of_decide_eq_true h2
    rw [cmpI, if_neg h, if_pos h2]
  · have h : ¬ x < y := of_decide_eq_false h
    have h2 : ¬ x > y := of_decide_eq_false h2
    rw [cmpI, if_neg h, if_neg h2]
theorem cmpSeat_c (w : World) (s0 s1 : Int) (s2 : Sl) (s3 id : Int) :
    Calls Try.prog 39 #[.agg #[.int .i64 s0, .int .i64 s1, Sl.v s2, .int .i64 s3], .int .i64 id] w fun e w' => e = .returned (.int .i64 (cmpI s0 id)) ∧ Only [] w w' := by
  refine ret (session_row_at_1_wp s0 s1 s2 s3 id (fun v w' => v = _ ∧ Only [] w w') w ?_)
  unfold session_row_at_1_vc
  intro b w1 hb1 hb2 hO1
  refine (compare_c w1 s0 id).mono ?_
  rintro _ w2 ⟨rfl, hO2⟩
  exact ⟨_, rfl, hO2.same (by simp; omega), rfl, hO1.tr0 hO2⟩
theorem bsearch_c {w : World} {F : Nat → Prop} {s : Sl} {l : List Seat} (h : Seats w F s l) (hl8 : l.length ≤ 1000) (hp : Rising l) (id : Int) :
    Calls Try.prog 38 #[Sl.v s, .int .i64 id, .func (.func 39) #[] #[]] w fun e w' => ∃ k t, e = .returned (.tuple #[.int .i64 k, .bool t]) ∧ Found l id k t ∧ Only [] w w' := by
  refine (slices_BinarySearchFunc_api_Seat_wp s id _ (fun v w' => ∃ k t, v = (.tuple #[.int .i64 k, .bool t]) ∧ Found l id k t ∧ Only [] w w') w ?_).mono (by
    rintro e w' ⟨v, rfl, k, t, rfl, h⟩; exact ⟨k, t, rfl, h⟩)
  unfold slices_BinarySearchFunc_api_Seat_vc
  have hlen := h.len
  have hasc : ∀ (a b : Nat) (x y : Seat), a < b → l[a]? = some x → l[b]? = some y → x.i < y.i := fun a b x y hab hx hy => by
    obtain ⟨ha, rfl⟩ := List.getElem?_eq_some_iff.1 hx
    obtain ⟨hb, rfl⟩ := List.getElem?_eq_some_iff.1 hy
    exact List.pairwise_iff_getElem.1 hp a b ha hb hab
  refine ⟨fun nv i j w' => ∃ a b : Nat, i = (a : Int) ∧ j = (b : Int) ∧ a ≤ b ∧ b ≤ l.length ∧ nv = b - a ∧ (∀ (m : Nat) (x : Seat), l[m]? = some x → m < a → x.i < id) ∧ (∀ (m : Nat) (x : Seat), l[m]? = some x → b ≤ m → id ≤ x.i) ∧ Only [] w w', l.length,
    ⟨0, l.length, rfl, by rw [hlen], Nat.zero_le _, Nat.le_refl _, by omega, fun m x _ hm => by omega, fun m x hx hm => by have := (List.getElem?_eq_some_iff.1 hx).1; omega, Only.refl _ _⟩, ?_⟩
  rintro nv _ _ w1 ⟨a, b, rfl, rfl, hab, hbl, rfl, hlo, hhi, hO⟩
  have h1 := SliceF.only rSeat_ok (by decide) h hO (by simp)
  refine ⟨fun hc => ?_, fun hc => ?_⟩
  · have hc : (a : Int) < b := of_decide_eq_true hc
    rw [mid_eq (by omega) (by omega) (by omega)]
    obtain ⟨m, hm⟩ : ∃ m : Nat, ((a : Int) + b) / 2 = m := ⟨(((a : Int) + b) / 2).toNat, by omega⟩
    rw [hm]
    obtain ⟨ad, x, cs, g1, g2, g3, g4, g5, d, rfl, g6⟩ := h1.get (i := (m : Int)) (by omega) (by omega)
    rw [Int.toNat_natCast] at g2
    refine ⟨ad, g1, _, _, d, _, g5, 39, [], rfl, fun args w => rfl, (cmpSeat_c w1 x.i x.l d x.u id).mono ?_⟩
    rintro _ w2 ⟨rfl, hO2⟩
    refine ⟨_, rfl, fun hc2 => ?_, fun hc2 => ?_⟩
    · have hc2 : cmpI x.i id < 0 := of_decide_eq_true hc2
      have hx : x.i < id := by
        simp only [cmpI] at hc2
        split at hc2
        · assumption
        · split at hc2 <;> omega
      rw [wr' (x := (m : Int) + 1) (by omega) (by omega)]
      refine ⟨b - (m + 1), by omega, m + 1, b, by omega, rfl, by omega, hbl, rfl, fun k y hy hk => ?_, hhi, hO.tr0 hO2⟩
      by_cases hkm : k = m
      · subst hkm
        rw [g2] at hy
        injection hy with hy
        subst hy
        exact hx
      · have := hasc k m y x (by omega) hy g2
        omega
    · have hc2 : ¬ cmpI x.i id < 0 := of_decide_eq_false hc2
      have hx : id ≤ x.i := by
        simp only [cmpI] at hc2
        split at hc2
        · omega
        · omega
      refine ⟨m - a, by omega, a, m, rfl, rfl, by omega, by omega, rfl, hlo, fun k y hy hk => ?_, hO.tr0 hO2⟩
      by_cases hkm : k = m
      · subst hkm
        rw [g2] at hy
        injection hy with hy
        subst hy
        exact hx
      · have := hasc m k x y (by omega) g2 hy
        omega
  · have hc : ¬ (a : Int) < b := of_decide_eq_false hc
    have hab' : a = b := by omega
    subst hab'
    have hno : ∀ (m : Nat) (x : Seat), l[m]? = some x → m ≠ a → x.i ≠ id := fun m x hx hm => by
      by_cases hlt : m < a
      · have := hlo m x hx hlt; omega
      · have hal : a < l.length := by have := (List.getElem?_eq_some_iff.1 hx).1; omega
        have h2 := hhi a _ (List.getElem?_eq_getElem hal) (Nat.le_refl _)
        have h3 := hasc a m _ x (by omega) (List.getElem?_eq_getElem hal) hx
        omega
    refine ⟨fun k t w' => Found l id k t ∧ Only [] w w', fun k t w' ⟨h1, h2⟩ => ⟨k, t, rfl, h1, h2⟩, fun hc2 => ?_, fun hc2 => ?_⟩
    · have hc2 : (a : Int) < s.n := of_decide_eq_true hc2
      obtain ⟨ad, x, cs, g1, g2, g3, g4, g5, d, rfl, g6⟩ := h1.get (i := (a : Int)) (by omega) hc2
      rw [Int.toNat_natCast] at g2
      refine ⟨ad, g1, _, _, d, _, g5, 39, [], rfl, fun args w => rfl, (cmpSeat_c w1 x.i x.l d x.u id).mono ?_⟩
      rintro _ w2 ⟨rfl, hO2⟩
      refine ⟨_, rfl, ?_, hO.tr0 hO2⟩
      by_cases hx : x.i = id
      · refine .inl ⟨?_, a, x, rfl, g2, hx⟩
        simp [cmpI, hx]
      · refine .inr ⟨?_, fun y hy => ?_⟩
        · simp only [cmpI]
          split
          · rfl
          · rw [if_pos (by omega)]; rfl
        · obtain ⟨m, hm⟩ := List.getElem?_of_mem hy
          by_cases hma : m = a
          · subst hma
            rw [g2] at hm
            injection hm with hm
            subst hm
            exact hx
          · exact hno m y hm hma
    · have hc2 : ¬ (a : Int) < s.n := of_decide_eq_false hc2
      refine ⟨.inr ⟨rfl, fun y hy => ?_⟩, hO⟩
      obtain ⟨m, hm⟩ := List.getElem?_of_mem hy
      have := (List.getElem?_eq_some_iff.1 hm).1
      exact hno m y hm (by omega)

/-! ## a book in memory -/
structure Bk (ty : TypeId) (w : World) (F : Nat → Prop) (b : Nat) (x : BookS) : Prop where
  ok : x.Ok
  fb : F b
  at_ : ∃ s : Sl, Blk w b ty [s.v, .int .i64 x.n] ∧ Own rSeat 4 49 0 w (fun k => F k ∧ k ≠ b) s x.l ∧ ∀ g, s.a = some ⟨g, 0, none⟩ → F g ∧ g ≠ b
section
variable {ty : TypeId} {w w' : World} {F G : Nat → Prop} {b : Nat} {x : BookS}
theorem Bk.keep (h : Bk ty w F b x) (hk : ∀ k, F k → k < w.heap.size → w'.heap[k]? = w.heap[k]?) : Bk ty w' F b x := by
  obtain ⟨s, h1, h2, h3⟩ := h.at_
  refine ⟨h.ok, h.fb, s, (hk b h.fb h1.lt).trans h1, h2.keep rSeat_ok (fun k hF hlt => ?_), h3⟩
  rcases hF with hF | ⟨_, hF⟩
  · exact hk k hF.1 hlt
  · exact hk k (h3 k hF).1 hlt
theorem Bk.mono (h : Bk ty w F b x) (hk : ∀ k, F k → G k) : Bk ty w G b x := by
  obtain ⟨s, h1, h2, h3⟩ := h.at_
  exact ⟨h.ok, hk b h.fb, s, h1, h2.mono rSeat_ok (fun k hF => ⟨hk k hF.1, hF.2⟩), fun g hg => ⟨hk g (h3 g hg).1, (h3 g hg).2⟩⟩
theorem Bk.inHeap (h : Bk ty w F b x) : Bk ty w (fun k => F k ∧ k < w.heap.size) b x := by
  obtain ⟨s, h1, h2, h3⟩ := h.at_
  exact ⟨h.ok, ⟨h.fb, h1.lt⟩, s, h1, (h2.inHeap rSeat_ok).mono rSeat_ok (fun k hF => ⟨⟨hF.1.1, hF.2⟩, hF.1.2⟩), fun g hg => ⟨⟨(h3 g hg).1, (h2.blk hg).2⟩, (h3 g hg).2⟩⟩
theorem Bk.only (h : Bk ty w F b x) {bs : List Nat} (hO : Only bs w w') (hb : ∀ k, F k → k < w.heap.size → k ∉ bs) : Bk ty w' F b x := h.keep fun k hF hlt => hO.block k hlt (hb k hF hlt)
theorem Bk.only0 (h : Bk ty w F b x) (hO : Only [] w w') : Bk ty w' F b x := h.only hO (by simp)
theorem Bk.onlyP (h : Bk ty w F b x) (hO : OnlyP G w w') (hb : ∀ k, F k → k < w.heap.size → ¬ G k) : Bk ty w' F b x := h.keep fun k hF hlt => hO.block k hlt (hb k hF hlt)
theorem Bk.c0 {s : Sl} {v : Value} (h : Blk w b ty [s.v, v]) : Cells w (Addr.add (Addr.add ⟨b, 0, none⟩ 0) 0) [s.v] := h.cellsAt 0 _ rfl
theorem Bk.c0' {s : Sl} {v : Value} (h : Blk w b ty [s.v, v]) : Cells w (Addr.add ⟨b, 0, none⟩ 0) [s.v] := h.cellsAt 0 _ rfl
theorem Bk.c1 {s v : Value} (h : Blk w b ty [s, v]) : Cells w (Addr.add ⟨b, 0, none⟩ 1) [v] := h.cellsAt 1 _ rfl
theorem Bk.lt (h : Bk ty w F b x) : b < w.heap.size := by obtain ⟨s, h1, _⟩ := h.at_; exact h1.lt
theorem Bk.seats (h : Bk ty w F b x) : ∃ s : Sl, Blk w b ty [s.v, .int .i64 x.n] ∧ Seats w (fun k => F k ∧ k ≠ b) s x.l := by
  obtain ⟨s, h1, h2, h3⟩ := h.at_
  exact ⟨s, h1, (h2.slice rSeat_ok).mono rSeat_ok fun k hk => hk.elim id fun hk => h3 k hk.2⟩
end

theorem at_c {ty : TypeId} {w : World} {F : Nat → Prop} {b : Nat} {x : BookS} (h : Bk ty w F b x) (id : Int) :
    Calls Try.prog 26 #[.pointer (some (Addr.add ⟨b, 0, none⟩ 0)), .int .i64 id] w fun e w' => ∃ k t, e = .returned (.tuple #[.int .i64 k, .bool t]) ∧ Found x.l id k t ∧ Only [] w w' := by
  refine (session_row_at_wp _ id (fun v w' => ∃ k t, v = (.tuple #[.int .i64 k, .bool t]) ∧ Found x.l id k t ∧ Only [] w w') w ?_).mono (by
    rintro e w' ⟨v, rfl, k, t, rfl, h⟩; exact ⟨k, t, rfl, h⟩)
  unfold session_row_at_vc
  obtain ⟨s, h1, h2⟩ := h.seats
  refine ⟨s, Bk.c0 h1, (bsearch_c h2 (by have := h.ok.len; omega) h.ok.up id).mono ?_⟩
  rintro _ w1 ⟨k, t, rfl, g1, g2⟩
  exact ⟨k, t, rfl, k, t, rfl, g1, g2⟩

/-! ## Ask -/
def askS (l : List Seat) (id seq : Int) : Int × List UInt8 :=
  match findS l id with
  | none => (4, [])
  | some s => if seq < s.l ∨ seq < 1 then (3, []) else if seq = s.l then (2, s.r) else (1, [])
abbrev OwnB (w w' : World) (s : Sl) (l : List UInt8) : Prop := Own rByte 1 5 w.heap.size w' (fun _ => False) s l

theorem Found.get {ty : TypeId} {w : World} {F : Nat → Prop} {s : Sl} {l : List Seat} (h : Seats w F s l) {id k : Int} (hf : Found l id k true) : ∃ n x ad d, k = ((n : Nat) : Int) ∧ l[n]? = some x ∧ x.i = id ∧ SlAt s k 4 ad ∧ Cells w ad [.int .i64 x.i, .int .i64 x.l, Sl.v d, .int .i64 x.u] ∧ SeatAt w F x d := by
  rcases hf with ⟨_, n, x, rfl, h1, h2⟩ | ⟨h, _⟩
  · obtain ⟨ad, y, cs, g1, g2, g3, g4, g5, d, rfl, g6⟩ := h.get (i := (n : Int)) (Int.natCast_nonneg n) (by have := (List.getElem?_eq_some_iff.1 h1).1; have := h.len; omega)
    rw [Int.toNat_natCast, h1] at g2
    injection g2 with g2
    subst g2
    exact ⟨n, x, ad, d, rfl, h1, h2, g1, g5, g6⟩
  · cases h

theorem ask_c {ty : TypeId} {w : World} {F : Nat → Prop} {b : Nat} {x : BookS} (h : Bk ty w F b x) (id seq : Int) :
    Calls Try.prog 10 #[.pointer (some ⟨b, 0, none⟩), .int .i64 id, .int .i64 seq] w fun e w' => ∃ s : Sl, e = .returned (.tuple #[.int .i64 (askS x.l id seq).1, s.v]) ∧ OwnB w w' s (askS x.l id seq).2 ∧ Only [] w w' := by
  refine (session_Book_Ask_wp _ id seq (fun v w' => ∃ s : Sl, v = (.tuple #[.int .i64 (askS x.l id seq).1, s.v]) ∧ OwnB w w' s (askS x.l id seq).2 ∧ Only [] w w') w ?_).mono (by
    rintro e w' ⟨v, rfl, s, rfl, h⟩; exact ⟨s, rfl, h⟩)
  unfold session_Book_Ask_vc
  refine (at_c h id).mono ?_
  rintro _ w1 ⟨k, t, rfl, g1, hO1⟩
  have nilB : ∀ {w' : World}, OwnB w w' Sl.nil [] := Own.nil _ _ _ _ _ _
  refine ⟨k, t, rfl, fun ht => ?_, fun ht => ?_⟩
  · have ht : t = false := by simpa using ht
    subst ht
    rcases g1 with ⟨h, _⟩ | ⟨_, g1⟩
    · cases h
    · exact ⟨Sl.nil, by simp [askS, find_none g1], by simp only [askS, find_none g1]; exact nilB, hO1⟩
  · have ht : t = true := by simpa using ht
    subst ht
    obtain ⟨s, h1, h2⟩ := (h.only0 hO1).seats
    obtain ⟨n, y, ad, d, rfl, e1, e2, e3, e4, e5⟩ := g1.get (ty := ty) h2
    have hf := find_at h.ok.up e1 e2
    have hmax : ∀ a : Int, (decide (seq < (if 1 > a then 1 else a))) = decide (seq < a ∨ seq < 1) := fun a => by
      congr 1
      apply propext
      split <;> omega
    refine ⟨s, Bk.c0 h1, ad, e3, _, _, d, _, e4, fun hc b1 w2 _ _ hO2 => ?_, fun hc => ⟨fun hc2 b1 w2 hb1 hb2 hO2 => ?_, fun hc2 b1 w2 _ _ hO2 => ?_⟩⟩
    · rw [hmax] at hc
      have hc := of_decide_eq_true hc
      have : askS x.l id seq = (3, []) := by simp only [askS, hf, if_pos hc]
      rw [this]
      exact ⟨Sl.nil, rfl, nilB, hO1.tr0 hO2⟩
    · rw [hmax] at hc
      have hc := of_decide_eq_false hc
      have hc2 : seq = y.l := by simpa using hc2
      have : askS x.l id seq = (2, y.r) := by simp only [askS, hf, if_neg hc, if_pos hc2]
      rw [this]
      have hO02 := hO1.tr0 hO2
      refine (bclone_c (SliceF.only rByte_ok (by decide) e5.d hO2 (by simp)) e5.dl).mono ?_
      rintro _ w3 ⟨s', rfl, k1, hO3⟩
      exact ⟨s', rfl, hO3.same (by simp; omega), s', rfl, k1.low hO02.size, hO02.tr0 hO3⟩
    · rw [hmax] at hc
      have hc := of_decide_eq_false hc
      have hc2 : ¬ seq = y.l := by simpa using hc2
      have : askS x.l id seq = (1, []) := by simp only [askS, hf, if_neg hc, if_neg hc2]
      rw [this]
      exact ⟨Sl.nil, rfl, nilB, hO1.tr0 hO2⟩
end Go.Proofs.Ytahncinfbhjkgaa.Con
