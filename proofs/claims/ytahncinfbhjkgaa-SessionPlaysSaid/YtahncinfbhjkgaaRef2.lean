/-
  Own work: what the functions of the document's own book (pavaneref19) do: Expire, List, New, Restore; the model's act.
-/
import Derived.Test.YtahncinfbhjkgaaRef
namespace Go.Proofs.Ytahncinfbhjkgaa.Con
open Go Go.RowKit Go.Kt Go.Proofs.Ytahncinfbhjkgaa.Vc
set_option linter.unusedSimpArgs false
set_option linter.unusedVariables false

theorem rexpire_c {w : World} {F : Nat → Prop} {b : Nat} {x : BookS} (h : Bk 64 w F b x) (now : Int) :
    Calls Try.prog 37 #[.pointer (some ⟨b, 0, none⟩), .int .i64 now] w fun e w' => ∃ s, e = .returned (Sl.v s) ∧ OwnI w.heap.size w' s (goneS x now) ∧ Bk 64 w' (fun k => F k ∨ w.heap.size ≤ k) b (expireS x now) ∧ OnlyP F w w' := by
  refine (pavaneref19_Book_Expire_wp _ now (fun v w' => ∃ s, v = Sl.v s ∧ OwnI w.heap.size w' s (goneS x now) ∧ Bk 64 w' (fun k => F k ∨ w.heap.size ≤ k) b (expireS x now) ∧ OnlyP F w w') w ?_).mono (by
    rintro e w' ⟨v, rfl, s, rfl, h⟩; exact ⟨s, rfl, h⟩)
  unfold pavaneref19_Book_Expire_vc
  have hbl := h.lt
  have hl8 := h.ok.len
  obtain ⟨s, h1, h2⟩ := h.seats
  have hsl := h2.len
  have h2i := h2.inHeap rSeat_ok (by decide)
  refine ⟨fun nv gone stay i w' => ∃ (n : Nat) (Fs : Nat → Prop), i = (n : Int) ∧ n ≤ x.l.length ∧ nv = x.l.length - n ∧ Only [] w w' ∧ OwnI w.heap.size w' gone (((x.l.take n).filter (late now)).map (·.i)) ∧
      Own rSeat 4 49 w.heap.size w' Fs stay ((x.l.take n).filter fun s => !late now s) ∧ (∀ k, Fs k → ((F k ∧ k ≠ b) ∧ k < w.heap.size) ∨ (w.heap.size ≤ k ∧ k < w'.heap.size ∧ gone.a ≠ some ⟨k, 0, none⟩)) ∧ (∀ g, gone.a = some ⟨g, 0, none⟩ → stay.a ≠ some ⟨g, 0, none⟩), x.l.length,
    ⟨0, fun _ => False, rfl, Nat.zero_le _, rfl, Only.refl _ _, Own.nil _ _ _ _ _ _, Own.nil _ _ _ _ _ _, fun k hk => hk.elim, fun g hg => by cases hg⟩, ?_⟩
  rintro nv gone stay _ w1 ⟨n, Fs, rfl, hn, rfl, hO, hg, hs, hFs, hgs⟩
  have c1 := Bk.c0' (hO.blk h1 (by simp))
  have hsz := hO.size
  refine ⟨s, c1, fun hc => ?_, fun hc => ?_⟩
  · have hlt : (n : Int) < s.n := of_decide_eq_true hc
    have hn' : n < x.l.length := by omega
    obtain ⟨ad, y, cs, g1, g2, g3, g4, g5, d, rfl, g6⟩ := (SliceF.only rSeat_ok (by decide) h2i hO (by simp)).get (Int.natCast_nonneg n) hlt
    rw [Int.toNat_natCast, List.getElem?_eq_getElem hn'] at g2
    injection g2 with g2
    subst g2
    have htk : x.l.take (n + 1) = x.l.take n ++ [x.l[n]] := by rw [List.take_add_one, List.getElem?_eq_getElem hn']; rfl
    have hw : IntKind.i64.wrap ((n : Int) + 1) = ((n + 1 : Nat) : Int) := by rw [wr' (x := (n : Int) + 1) (by omega) (by omega)]; omega
    refine ⟨fun gone' stay' w' => ∃ Fs : Nat → Prop, Only [] w w' ∧ OwnI w.heap.size w' gone' (((x.l.take (n + 1)).filter (late now)).map (·.i)) ∧
      Own rSeat 4 49 w.heap.size w' Fs stay' ((x.l.take (n + 1)).filter fun s => !late now s) ∧ (∀ k, Fs k → ((F k ∧ k ≠ b) ∧ k < w.heap.size) ∨ (w.heap.size ≤ k ∧ k < w'.heap.size ∧ gone'.a ≠ some ⟨k, 0, none⟩)) ∧ (∀ g, gone'.a = some ⟨g, 0, none⟩ → stay'.a ≠ some ⟨g, 0, none⟩), ?_, s, c1, ad, g1, _, g5.at1 3 _ rfl, fun hc2 => ?_, fun hc2 => ?_⟩
    · rintro gone' stay' w2 ⟨Fs', e1, e2, e3, e4, e5⟩
      exact ⟨x.l.length - (n + 1), by omega, n + 1, Fs', hw, by omega, rfl, e1, e2, e3, e4, e5⟩
    · have hlate : late now x.l[n] = true := hc2
      obtain ⟨y, w2, m1, m2, s', w3, m3, m4, ⟨gs, m5, m6⟩, m7⟩ := app_one (P := Try.prog) (t := 34) (ty := 34) (e := 3) (i := Try.t3) (bytes := 8) (G := fun _ => False) (v := .int .i64 x.l[n].i) (x := x.l[n].i)
        (by kernel_rfl) (by kernel_rfl) rfl rfl rfl rfl (by decide) (by decide) (by decide) rInt_ok hg hsz rfl ⟨rfl, g6.i⟩ (fun k hk => hk.elim) (by
          rw [List.length_map]
          have := List.length_filter_le (late now) (x.l.take n)
          rw [List.length_take] at this
          omega)
      refine ⟨s, c1, ad, g1, _, g5.at1 0 _ rfl, y, w2, m1, s', w3, m3, Fs, ?_, ?_, ?_, ?_, ?_⟩
      · exact (hO.tr0 m2).trans m5 fun g hg' => .inr (m6 g hg').2.1
      · rw [htk, List.filter_append, List.map_append]
        simp only [hlate, List.filter_cons_of_pos, List.filter_nil, List.map_cons, List.map_nil]
        rcases m4 with ⟨h, h'⟩ | ⟨g, css, tail, a1, a2, a4, a5, a6, a7, a9, a8⟩
        · simp at h'
        · exact .inr ⟨g, css, tail, a1, a2, a4, a5, a6, a7, a9, a8.imp fun _ _ h => h⟩
      · rw [htk, List.filter_append]
        simp only [hlate, Bool.not_true, Bool.false_eq_true, not_false_eq_true, List.filter_cons_of_neg, List.filter_nil, List.append_nil]
        refine (hs.keep rSeat_ok fun k hk hlt => m2.block k hlt (by simp)).keep rSeat_ok fun k hk hlt => m5.block k hlt fun hm => ?_
        have hka := (m6 k hm).1
        rcases hk with hk | hk
        · rcases hFs k hk with hk | hk
          · have := (hg.blk hka).1; dsimp only at this; omega
          · exact hk.2.2 hka
        · exact hgs k hka hk.2
      · intro k hk
        have hs2 := m2.size
        have hs3 := m5.size
        rcases hFs k hk with hk | hk
        · exact .inl hk
        · refine .inr ⟨hk.1, by omega, fun ha => ?_⟩
          rcases m7 with h | ⟨g', h, h'⟩
          · rw [h] at ha; exact hk.2.2 ha
          · rw [h] at ha
            injection ha with ha
            injection ha with ha
            subst ha
            omega
      · intro g ha hb
        rcases m7 with h | ⟨g', h, h'⟩
        · rw [h] at ha; exact hgs g ha hb
        · rw [h] at ha
          injection ha with ha
          injection ha with ha
          subst ha
          have := (hs.blk hb).2
          dsimp only at this
          omega
    · have hlate : late now x.l[n] = false := hc2
      obtain ⟨y, w2, m1, m2, s', w3, m3, m4, ⟨gs, m5, m6⟩, m7⟩ := app_one (P := Try.prog) (t := 42) (ty := 42) (e := 49) (i := Try.t49) (bytes := 48) (F := fun k => Fs k ∨ ((F k ∧ k ≠ b) ∧ k < w.heap.size)) (G := fun k => (F k ∧ k ≠ b) ∧ k < w.heap.size) (v := .agg #[.int .i64 x.l[n].i, .int .i64 x.l[n].l, Sl.v d, .int .i64 x.l[n].u]) (x := x.l[n])
        (by kernel_rfl) (by kernel_rfl) rfl rfl rfl rfl (by decide) (by decide) (by decide) rSeat_ok (hs.mono rSeat_ok fun k hk => .inl hk) hsz rfl ⟨d, rfl, g6⟩ (fun k hk _ => ⟨.inr hk, fun ha => by have h' := (hs.blk ha).1; dsimp only at h'; have := hk.2; omega⟩) (by
          have := List.length_filter_le (fun s => !late now s) (x.l.take n)
          rw [List.length_take] at this
          omega)
      have m2' := m2.size
      have m5' := m5.size
      refine ⟨s, c1, ad, g1, _, _, d, _, g5, y, w2, m1, s', w3, m3, fun k => ((Fs k ∨ ((F k ∧ k ≠ b) ∧ k < w.heap.size)) ∨ w1.heap.size ≤ k) ∧ k < w3.heap.size, ?_, ?_, ?_, fun k hk => ?_, ?_⟩
      · exact (hO.tr0 m2).trans m5 fun g hg' => .inr (m6 g hg').2.1
      · rw [htk, List.filter_append, List.map_append]
        simp only [hlate, Bool.false_eq_true, not_false_eq_true, List.filter_cons_of_neg, List.filter_nil, List.map_nil, List.append_nil]
        refine (hg.keep rInt_ok fun k hk hlt => m2.block k hlt (by simp)).keep rInt_ok fun k hk hlt => m5.block k hlt fun hm => ?_
        rcases hk with hk | hk
        · exact hk
        · exact hgs k hk.2 (m6 k hm).1
      · have e : (x.l.take (n + 1)).filter (fun s => !late now s) = (x.l.take n).filter (fun s => !late now s) ++ [x.l[n]] := by
          rw [htk, List.filter_append]
          simp [hlate]
        rw [e]
        exact m4.inHeap rSeat_ok
      · rcases hk with ⟨(hk | hk) | hk, hlt⟩
        · rcases hFs k hk with hk | hk
          · exact .inl hk
          · exact .inr ⟨hk.1, by omega, hk.2.2⟩
        · exact .inl hk
        · refine .inr ⟨by omega, hlt, fun ha => ?_⟩
          have := (hg.blk ha).2
          dsimp only at this
          omega
      · intro g ha hb
        rcases m7 with h | ⟨g', h, h'⟩
        · rw [h] at hb; exact hgs g ha hb
        · rw [h] at hb
          injection hb with hb
          injection hb with hb
          subst hb
          have := (hg.blk ha).2
          dsimp only at this
          omega
  · have hge : ¬ (n : Int) < s.n := of_decide_eq_false hc
    have hnl : n = x.l.length := by omega
    subst hnl
    rw [List.take_of_length_le (Nat.le_refl _)] at hg hs
    refine ⟨b, 0, _, _, rfl, hO.blk h1 (by simp), by simp, fun w2 hO2 hb2 => ⟨gone, rfl, ?_, ⟨expireS_ok h.ok now, .inl h.fb, stay, hb2, ?_, fun g ha => ?_⟩, ?_⟩⟩
    · refine hg.keep rInt_ok fun k hk hlt => hO2.block k hlt ?_
      simp only [List.mem_singleton]
      rcases hk with hk | hk
      · exact hk.elim
      · omega
    · refine ((hs.keep rSeat_ok fun k hk hlt => hO2.block k hlt ?_).low (Nat.zero_le _)).mono rSeat_ok fun k hk => ?_
      · simp only [List.mem_singleton]
        rcases hk with hk | hk
        · rcases hFs k hk with hk | hk
          · exact hk.1.2
          · omega
        · omega
      · rcases hFs k hk with hk | hk
        · exact ⟨.inl hk.1.1, hk.1.2⟩
        · exact ⟨.inr hk.1, by omega⟩
    · have := hs.blk ha
      dsimp only at this
      exact ⟨.inr this.1, by omega⟩
    · exact hO.trP (hO2.p (F := F) fun g hg => .inl (by simp only [List.mem_singleton] at hg; subst hg; exact h.fb))

theorem rlist_c {ty : TypeId} {w : World} {F : Nat → Prop} {b : Nat} {s : Sl} {v : Value} {l : List Seat} (hb : Blk w b ty [s.v, v]) (h : Seats w F s l) (hl : l.length ≤ 1000) :
    Calls Try.prog 23 #[.pointer (some ⟨b, 0, none⟩)] w fun e w' => ∃ s' : Sl, e = .returned s'.v ∧ Own rSeat 4 49 w.heap.size w' (fun k => w.heap.size ≤ k) s' l ∧ Only [] w w' := by
  refine (pavaneref19_Book_List_wp _ (fun v w' => ∃ s' : Sl, v = s'.v ∧ Own rSeat 4 49 w.heap.size w' (fun k => w.heap.size ≤ k) s' l ∧ Only [] w w') w ?_).mono (by
    rintro e w' ⟨v, rfl, s', rfl, h⟩; exact ⟨s', rfl, h⟩)
  unfold pavaneref19_Book_List_vc
  have hsl := h.len
  have hbl := hb.lt
  refine ⟨fun nv out i w' => ∃ n : Nat, i = (n : Int) ∧ n ≤ l.length ∧ nv = l.length - n ∧ Only [] w w' ∧ Own rSeat 4 49 w.heap.size w' (fun k => w.heap.size ≤ k) out (l.take n), l.length,
    ⟨0, rfl, Nat.zero_le _, rfl, Only.refl _ _, Own.nil _ _ _ _ _ _⟩, ?_⟩
  rintro nv out _ w1 ⟨n, rfl, hn, rfl, hO, hown⟩
  have c1 : ∀ {w' : World}, Only [] w w' → Cells w' (Addr.add ⟨b, 0, none⟩ 0) [s.v] := fun hO => Bk.c0' (hO.blk hb (by simp))
  have hsz := hO.size
  refine ⟨s, c1 hO, fun hc => ?_, fun hc => ?_⟩
  · have hlt : (n : Int) < s.n := of_decide_eq_true hc
    have hn' : n < l.length := by omega
    obtain ⟨ad, y, cs, g1, g2, g3, g4, g5, d, rfl, g6⟩ := (SliceF.only rSeat_ok (by decide) h hO (by simp)).get (Int.natCast_nonneg n) hlt
    rw [Int.toNat_natCast, List.getElem?_eq_getElem hn'] at g2
    injection g2 with g2
    subst g2
    refine ⟨s, c1 hO, ad, g1, _, _, d, _, g5, fun b1 w2 hb1 hb2 hO2 => ?_⟩
    have hs2 := hO2.size
    obtain ⟨x1, w3, k1, hO3, s', w4, k2, k3, k4⟩ := clone_bytes (SliceF.only rByte_ok (by decide) g6.d hO2 (by simp)) g6.dl
    have hs3 := hO3.size
    have hs4 := k4.size
    refine ⟨x1, w3, k1, hO3.same (by simp; omega), s', w4, k2, fun z hz => ?_, fun w5 hO5 => ?_⟩
    · simp only [List.mem_singleton] at hz
      subst hz
      rw [k4.block z hb2 (by simp), hO3.block z hb2 (by simp)]
    have hO15' : Only [] w1 w5 := (hO2.tr0 k4).trans hO5 (by simp; omega)
    have hown5 := hown.inHeap rSeat_ok |>.keep rSeat_ok (w' := w5) fun k hk hlt => hO15'.block k hlt (by simp)
    have hs5 := hO5.size
    have hd5 : SliceF rByte 1 w5 (fun k => w2.heap.size ≤ k) s' l[n].r := SliceF.only rByte_ok (by decide) ((k3.slice rByte_ok).mono rByte_ok fun k hk => hk.elim False.elim fun h => h.1) hO5 (by simp; omega)
    obtain ⟨z, w6, m1, m2, t', w7, m3, m4, ⟨gs, m5, m6⟩, m7⟩ := app_one (P := Try.prog) (t := 42) (ty := 42) (e := 49) (i := Try.t49) (bytes := 48) (F := fun k => w.heap.size ≤ k) (G := fun k => w2.heap.size ≤ k) (v := .agg #[.int .i64 l[n].i, .int .i64 l[n].l, Sl.v s', .int .i64 l[n].u]) (x := l[n])
      (by kernel_rfl) (by kernel_rfl) rfl rfl rfl rfl (by decide) (by decide) (by decide) rSeat_ok (hown5.mono rSeat_ok fun k hk => hk.1) (by omega) rfl ⟨s', rfl, g6.i, g6.l, g6.u, hd5, g6.dl⟩ (fun k hk _ => ⟨by omega, fun ha => by have h' := (hown.blk ha).2; dsimp only at h'; omega⟩) (by rw [List.length_take]; omega)
    have hs6 := m2.size
    refine ⟨z, w6, m1, m2.same (by simp; omega), t', w7, m3, m5.same (by
      simp only [List.mem_singleton]; rintro _ rfl; exact ⟨by omega, fun hm => by have h' := (hown.blk (m6 _ hm).1).2; dsimp only at h'; omega⟩), ?_⟩
    rw [wr' (x := (n : Int) + 1) (by omega) (by omega)]
    refine ⟨l.length - (n + 1), by omega, n + 1, by omega, by omega, rfl, ((hO.tr0 hO15').tr0 m2).trans m5 fun g hg' => .inr (m6 g hg').2.1, ?_⟩
    rw [List.take_add_one, List.getElem?_eq_getElem hn']
    exact m4.mono rSeat_ok fun k hk => hk.elim id fun hk => by omega
  · have hge : ¬ (n : Int) < s.n := of_decide_eq_false hc
    rw [List.take_of_length_le (by omega)] at hown
    exact ⟨out, rfl, hown, hO⟩

theorem rnew_c (w : World) : Calls Try.prog 16 #[] w fun e w' => ∃ b, e = .returned (.pointer (some ⟨b, 0, none⟩)) ∧ Bk 64 w' (fun k => w.heap.size ≤ k) b newBook ∧ Only [] w w' := by
  refine (pavaneref19_New_wp (fun v w' => ∃ b, v = .pointer (some ⟨b, 0, none⟩) ∧ Bk 64 w' (fun k => w.heap.size ≤ k) b newBook ∧ Only [] w w') w ?_).mono (by
    rintro e w' ⟨v, rfl, b, rfl, h⟩; exact ⟨b, rfl, h⟩)
  unfold pavaneref19_New_vc
  intro b w1 hb1 hb2 hO hB
  exact ⟨b, rfl, ⟨newBook_ok, hb1, Sl.nil, hB, Own.nil _ _ _ _ _ _, fun g hg => by cases hg⟩, hO⟩

theorem rrestore_c {w : World} {F : Nat → Prop} {s : Sl} {l : List Seat} (h : Seats w F s l) (next : Int) (hn : InI next) :
    Calls Try.prog 18 #[Sl.v s, .int .i64 next] w fun e w' => Only [] w w' ∧ (restoreOk l next = false → e = .returned (.tuple #[.pointer none, .int .i64 1])) ∧
      (restoreOk l next = true → ∃ b, e = .returned (.tuple #[.pointer (some ⟨b, 0, none⟩), .int .i64 0]) ∧ Bk 64 w' (fun k => w.heap.size ≤ k) b ⟨l, next⟩) := by
  refine (pavaneref19_Restore_wp s next (fun v w' => Only [] w w' ∧ (restoreOk l next = false → v = .tuple #[.pointer none, .int .i64 1]) ∧
      (restoreOk l next = true → ∃ b, v = .tuple #[.pointer (some ⟨b, 0, none⟩), .int .i64 0] ∧ Bk 64 w' (fun k => w.heap.size ≤ k) b ⟨l, next⟩)) w ?_).mono (by
    rintro e w' ⟨v, rfl, h1, h2, h3⟩
    exact ⟨h1, fun h => by rw [h2 h], fun h => by obtain ⟨b, g1, g2⟩ := h3 h; exact ⟨b, by rw [g1], g2⟩⟩)
  unfold pavaneref19_Restore_vc
  have hlen := h.len
  have hbig := h.big
  have hcap := h.cap
  refine ⟨fun hc => ?_, fun hc => ?_⟩
  · have hc : (s.n : Int) > 8 := of_decide_eq_true hc
    have hr : restoreOk l next = false := by
      simp only [restoreOk, Bool.and_eq_false_iff, decide_eq_false_iff_not]
      omega
    exact ⟨Only.refl _ _, fun _ => rfl, fun h => by rw [hr] at h; cases h⟩
  have hc8 : ¬ (s.n : Int) > 8 := of_decide_eq_false hc
  refine ⟨fun nv last t w' => ∃ n : Nat, n ≤ l.length ∧ t = (n : Int) ∧ nv = l.length - n ∧ fitsB next 0 l = fitsB next last (l.drop n) ∧ Only [] w w', l.length, ⟨0, Nat.zero_le _, rfl, rfl, rfl, Only.refl _ _⟩, ?_⟩
  rintro nv last _ w1 ⟨n, hn', rfl, rfl, hf, hO⟩
  refine ⟨fun hc => ?_, fun hc => ?_⟩
  · have hlt : (n : Int) < s.n := of_decide_eq_true hc
    have hnl : n < l.length := by omega
    obtain ⟨ad, x, cs, g1, g2, g3, g4, g5, d, rfl, g6⟩ := (SliceF.only rSeat_ok (by decide) h hO (by simp)).get (Int.natCast_nonneg n) hlt
    rw [Int.toNat_natCast, List.getElem?_eq_getElem hnl] at g2
    injection g2 with g2
    have hdl := g6.d.len
    have hb : ((((((((decide (x.i ≤ last)) || (decide (x.i ≥ next))) || (decide (x.l < 0))) || (decide ((↑(Sl.n d) : Int) > 65536))) || ((x.l == 0) && (decide ((↑(Sl.n d) : Int) > 0)))) || (decide (x.u < 0))) || (decide (x.u > 1099511627826)))) = badSeat last next x := by
      rw [hdl]; rfl
    rw [List.drop_eq_getElem_cons hnl, g2] at hf
    simp only [fitsB] at hf
    refine ⟨ad, g1, _, _, d, _, g5, fun hc2 bb w2 hb1 hb2 hO2 => ?_, fun hc2 bb w2 hb1 hb2 hO2 => ?_⟩
    · rw [hb] at hc2
      rw [hc2] at hf
      have hr : restoreOk l next = false := by simp only [restoreOk, hf, Bool.not_true, Bool.false_and]
      exact ⟨hO.tr0 hO2, fun _ => rfl, fun h => by rw [hr] at h; cases h⟩
    · rw [hb] at hc2
      rw [hc2] at hf
      rw [wr' (x := (n : Int) + 1) (by omega) (by omega)]
      exact ⟨l.length - (n + 1), by omega, n + 1, by omega, by omega, rfl, by simpa using hf, hO.tr0 hO2⟩
  · have hge : ¬ ((n : Int) < s.n) := of_decide_eq_false hc
    rw [List.drop_eq_nil_of_le (by omega)] at hf
    simp only [fitsB] at hf
    refine ⟨fun hc2 => ?_, fun hc2 b w2 hb1 hb2 hO2 hB2 => ?_⟩
    · have hc2 : next < 1 := of_decide_eq_true hc2
      have hr : restoreOk l next = false := by
        simp only [restoreOk, hf, Bool.true_and, Bool.and_eq_false_iff, decide_eq_false_iff_not]
        omega
      exact ⟨hO, fun _ => rfl, fun h => by rw [hr] at h; cases h⟩
    · have hc2 : ¬ next < 1 := of_decide_eq_false hc2
      have hr : restoreOk l next = true := by
        simp only [restoreOk, hf, Bool.true_and, Bool.and_eq_true, decide_eq_true_eq]
        omega
      have hok := restoreOk_ok hr hn
      have hO02 := hO.tr0 hO2
      refine (rlist_c hB2 (SliceF.only rSeat_ok (by decide) (h.inHeap rSeat_ok (by decide)) hO02 (by simp)) (by omega)).mono ?_
      rintro _ w3 ⟨s', rfl, k1, hO3⟩
      refine ⟨s', rfl, s, next, hO3.blk hB2 (by simp), fun w4 hO4 hB4 => ?_⟩
      have hs1 := hO.size
      have hs2 := hO2.size
      refine ⟨(hO02.tr0 hO3).trans hO4 (by simp; omega), fun h => (by rw [hr] at h; cases h), fun _ => ⟨b, rfl, hok, by omega, s', hB4, ?_, fun g hg => ?_⟩⟩
      · refine ((k1.keep rSeat_ok fun k hk hlt => hO4.block k hlt ?_).low (Nat.zero_le _)).mono rSeat_ok fun k hk => ⟨by omega, by omega⟩
        simp only [List.mem_singleton]
        rcases hk with hk | hk <;> omega
      · have := k1.blk hg
        dsimp only at this
        exact ⟨by omega, by omega⟩

theorem model_c {w : World} {F G : Nat → Prop} {b : Nat} {x : BookS} (h : Bk 64 w F b x) {a : Act'} {d : Sl} (hd : SliceF rByte 1 w G d a.2.2.2.2.1) (hl : a.2.2.2.2.1.length ≤ 140737488355327) (h1 : InI a.2.1) (h2 : InI a.2.2.1) :
    Calls Try.prog 20 #[.pointer (some ⟨b, 0, none⟩), .agg #[.int .i64 a.1, .int .i64 a.2.1, .int .i64 a.2.2.1, .int .i64 a.2.2.2.1, Sl.v d]] w fun e w' =>
      ∃ r g : Sl, e = .returned (.tuple #[.int .i64 (doF x a).1.1, .int .i64 (doF x a).1.2.1, Sl.v r, Sl.v g]) ∧ OwnB w w' r (doF x a).1.2.2.1 ∧ OwnI w.heap.size w' g (doF x a).1.2.2.2 ∧ Bk 64 w' (fun k => F k ∨ w.heap.size ≤ k) b (doF x a).2 ∧ OnlyP F w w' := by
  refine (pavanelaw19_model_wp _ _ _ _ _ d (fun v w' => ∃ r g : Sl, v = .tuple #[.int .i64 (doF x a).1.1, .int .i64 (doF x a).1.2.1, Sl.v r, Sl.v g] ∧ OwnB w w' r (doF x a).1.2.2.1 ∧ OwnI w.heap.size w' g (doF x a).1.2.2.2 ∧ Bk 64 w' (fun k => F k ∨ w.heap.size ≤ k) b (doF x a).2 ∧ OnlyP F w w') w ?_).mono (by
    rintro e w' ⟨v, rfl, r, g, rfl, h⟩; exact ⟨r, g, rfl, h⟩)
  unfold pavanelaw19_model_vc
  have nB : ∀ {w' : World}, OwnB w w' Sl.nil [] := Own.nil _ _ _ _ _ _
  have nI : ∀ {w' : World}, OwnI w.heap.size w' Sl.nil [] := Own.nil _ _ _ _ _ _
  have hbl := h.lt
  refine ⟨fun hc b1 w1 hb1 hb2 hO1 => ?_, fun hc => ⟨fun hc2 b1 w1 hb1 hb2 hO1 => ?_, fun hc2 => ⟨fun hc3 b1 w1 hb1 hb2 hO1 => ?_, fun hc3 => ⟨fun hc4 b1 w1 hb1 hb2 hO1 => ?_, fun hc4 b1 w1 hb1 hb2 hO1 => ?_⟩⟩⟩⟩
  all_goals have hs1 := hO1.size
  · have hc : a.1 = 0 := by simpa using hc
    have hF : doF x a = ((openN x a.2.2.2.1, openE x a.2.2.2.1, [], []), openS x a.2.2.2.1) := by simp only [doF, if_pos hc]
    rw [hF]
    refine (ropen_c (h.inHeap.only0 hO1) _).mono ?_
    rintro _ w2 ⟨rfl, k1, k2⟩
    exact ⟨_, _, rfl, k2.same (by simp; omega), Sl.nil, Sl.nil, rfl, nB, nI, k1.mono fun k hk => hk.imp (fun h => h.1) fun h => by omega, hO1.trP (k2.mono fun k _ hk => hk.1)⟩
  · have hc : ¬ a.1 = 0 := by simpa using hc
    have hc2 : a.1 = 1 := by simpa using hc2
    have hF : doF x a = (((askS x.l a.2.1 a.2.2.1).1, 0, (askS x.l a.2.1 a.2.2.1).2, []), x) := by simp only [doF, if_neg hc, if_pos hc2]
    rw [hF]
    refine (rask_c (h.only0 hO1) _ _).mono ?_
    rintro _ w2 ⟨s, rfl, k1, k2⟩
    exact ⟨_, s, rfl, k2.same (by simp; omega), s, Sl.nil, rfl, k1.low hs1, nI, (h.only0 (hO1.tr0 k2)).mono fun k hk => .inl hk, (hO1.tr0 k2).p0⟩
  · have hc : ¬ a.1 = 0 := by simpa using hc
    have hc2 : ¬ a.1 = 1 := by simpa using hc2
    have hc3 : a.1 = 2 := by simpa using hc3
    have hF : doF x a = ((0, noteE x a.2.1 a.2.2.1 a.2.2.2.1 a.2.2.2.2.1, [], []), noteS x a.2.1 a.2.2.1 a.2.2.2.1 a.2.2.2.2.1) := by simp only [doF, if_neg hc, if_neg hc2, if_pos hc3]
    rw [hF]
    refine (rnote_c (h.inHeap.only0 hO1) (SliceF.only rByte_ok (by decide) hd hO1 (by simp)) (by omega) _ _ _ h2 h1).mono ?_
    rintro _ w2 ⟨rfl, k1, k2⟩
    exact ⟨_, rfl, k2.same (by simp; omega), Sl.nil, Sl.nil, rfl, nB, nI, k1.mono fun k hk => hk.imp (fun h => h.1) fun h => by omega, hO1.trP (k2.mono fun k _ hk => hk.1)⟩
  · have hc : ¬ a.1 = 0 := by simpa using hc
    have hc2 : ¬ a.1 = 1 := by simpa using hc2
    have hc3 : ¬ a.1 = 2 := by simpa using hc3
    have hc4 : a.1 = 3 := by simpa using hc4
    have hF : doF x a = ((0, 0, [], goneS x a.2.2.2.1), expireS x a.2.2.2.1) := by simp only [doF, if_neg hc, if_neg hc2, if_neg hc3, if_pos hc4]
    rw [hF]
    refine (rexpire_c (h.inHeap.only0 hO1) _).mono ?_
    rintro _ w2 ⟨s, rfl, k0, k1, k2⟩
    exact ⟨s, rfl, k2.same (by simp; omega), Sl.nil, s, rfl, nB, k0.low hs1, k1.mono fun k hk => hk.imp (fun h => h.1) fun h => by omega, hO1.trP (k2.mono fun k _ hk => hk.1)⟩
  · have hc : ¬ a.1 = 0 := by simpa using hc
    have hc2 : ¬ a.1 = 1 := by simpa using hc2
    have hc3 : ¬ a.1 = 2 := by simpa using hc3
    have hc4 : ¬ a.1 = 3 := by simpa using hc4
    have hF : doF x a = ((0, 0, [], []), x) := by simp only [doF, if_neg hc, if_neg hc2, if_neg hc3, if_neg hc4]
    rw [hF]
    exact ⟨Sl.nil, Sl.nil, rfl, nB, nI, (h.only0 hO1).mono fun k hk => .inl hk, hO1.p0⟩
end Go.Proofs.Ytahncinfbhjkgaa.Con
