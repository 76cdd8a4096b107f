/-
  Own work: what the functions of the session package do: copies, List, New, Next, Restore.
-/
import Derived.Test.YtahncinfbhjkgaaCon4
namespace Go.Proofs.Ytahncinfbhjkgaa.Con
open Go Go.RowKit Go.Kt Go.Proofs.Ytahncinfbhjkgaa.Vc
set_option linter.unusedSimpArgs false
set_option linter.unusedVariables false

def tags {α : Type} (n : Nat) (l : List α) : List (α × Bool) := (l.take n).map (·, true) ++ (l.drop n).map (·, false)
theorem tags_len {α : Type} (n : Nat) (l : List α) : (tags n l).length = l.length := by simp only [tags, List.length_append, List.length_map, List.length_take, List.length_drop]; omega
theorem tags_at {α : Type} {n : Nat} {l : List α} (h : n < l.length) : (tags n l)[n]? = some (l[n], false) := by
  simp only [tags]
  rw [List.getElem?_append_right (by simp only [List.length_map, List.length_take]; omega)]
  simp only [List.length_map, List.length_take, Nat.min_eq_left (Nat.le_of_lt h), Nat.sub_self, List.getElem?_map, List.getElem?_drop, Nat.add_zero, List.getElem?_eq_getElem h, Option.map_some]
theorem tags_set {α : Type} {n : Nat} {l : List α} (h : n < l.length) : (tags n l).set n (l[n], true) = tags (n + 1) l := by
  simp only [tags]
  rw [List.set_append_right _ _ (by simp only [List.length_map, List.length_take]; omega)]
  simp only [List.length_map, List.length_take, Nat.min_eq_left (Nat.le_of_lt h), Nat.sub_self]
  rw [List.drop_eq_getElem_cons h, List.map_cons, List.set_cons_zero, List.take_add_one, List.getElem?_eq_getElem h, List.map_append, List.append_assoc]
  rfl

/-- seats in other memory: all of it new -/
theorem copied_c {w : World} {F : Nat → Prop} {s : Sl} {l : List Seat} (h : Seats w F s l) (hm : l.length * 48 ≤ 140737488355328) :
    Calls Try.prog 33 #[Sl.v s] w fun e w' => ∃ s' : Sl, e = .returned s'.v ∧ Own rSeat 4 49 w.heap.size w' (fun k => w.heap.size ≤ k) s' l ∧ Only [] w w' := by
  refine (session_copied_wp s (fun v w' => ∃ s' : Sl, v = s'.v ∧ Own rSeat 4 49 w.heap.size w' (fun k => w.heap.size ≤ k) s' l ∧ Only [] w w') w ?_).mono (by
    rintro e w' ⟨v, rfl, s', rfl, h⟩; exact ⟨s', rfl, h⟩)
  unfold session_copied_vc
  refine (sclone_c (h.inHeap rSeat_ok (by decide)) hm).mono ?_
  rintro e w1 ⟨x1, rfl, hown, hO1⟩
  refine ⟨x1, rfl, fun nv t w' => ∃ n : Nat, n ≤ l.length ∧ t = (n : Int) ∧ nv = l.length - n ∧ Only [] w w' ∧ Own (rTag rSeat fun k => w.heap.size ≤ k) 4 49 w.heap.size w' (fun k => (F k ∧ k < w.heap.size) ∨ w.heap.size ≤ k) x1 (tags n l),
    l.length, ⟨0, Nat.zero_le _, rfl, rfl, hO1, ?_⟩, ?_⟩
  · have := Own.map (q := rTag rSeat fun k => w.heap.size ≤ k) (G := fun k => (F k ∧ k < w.heap.size) ∨ w.heap.size ≤ k) (fun x => (x, false)) hown (fun g x cs _ hx => rSeat_ok.mono hx fun k hk => ⟨⟨.inl hk.1, hk.2⟩, fun h => (by cases h)⟩)
    simpa [tags] using this
  · rintro nv _ w2 ⟨n, hn, rfl, rfl, hO2, hown2⟩
    have hol := hown2.len
    rw [tags_len] at hol
    refine ⟨fun hc => ?_, fun hc => ?_⟩
    · have hlt : (n : Int) < x1.n := of_decide_eq_true hc
      have hn' : n < l.length := by omega
      obtain ⟨g, cells, cs, a1, a2, a3, a4, a5, ⟨d, rfl, b1, b2, b3, b4, b5⟩, _⟩ := hown2.set1 (rTag_ok rSeat_ok _) (tags_at hn')
      refine ⟨_, a2, d, a5.at1 2 _ rfl, (bclone_c b4 b5).mono ?_⟩
      rintro _ w3 ⟨d', rfl, k1, hO3⟩
      have hown3 := hown2.keep (rTag_ok rSeat_ok _) (w' := w3) fun k hk hlt => hO3.block k hlt (by simp)
      obtain ⟨g', cells', cs', a1', a2', a3', a4', a5', ⟨d2, rfl, c1, c2, c3, c4, c5⟩, a7⟩ := hown3.set1 (rTag_ok rSeat_ok _) (tags_at hn')
      have hs2 := hO2.size
      have hgl : g' < w2.heap.size := (hown2.blk a1').2
      have hgB : w.heap.size ≤ g' := (hown2.blk a1').1
      obtain ⟨q1, q2⟩ := a7 2 d'.v (l[n], true) (fun k => w2.heap.size ≤ k) (by decide) ⟨d', rfl, c1, c2, c3, (k1.slice rByte_ok).mono rByte_ok (fun k hk => hk.elim False.elim fun h => ⟨h.1, fun _ => by omega⟩), c5⟩ (fun k hk _ => ⟨.inr (by omega), by omega⟩)
      refine ⟨d', rfl, _, a2', g', n * 4 + 2, cells', _, by rw [addr_lit], a3', q1, fun w4 hO4 hb4 => ?_⟩
      rw [wr' (x := (n : Int) + 1) (by omega) (by have := h.big; have := h.len; have := h.cap; omega)]
      refine ⟨l.length - (n + 1), by omega, n + 1, by omega, by omega, rfl, (hO2.tr0 hO3).new hO4 hgB, ?_⟩
      rw [← tags_set hn']
      exact q2 w4 hO4 hb4
    · have hge : ¬ ((n : Int) < x1.n) := of_decide_eq_false hc
      have hnl : n = l.length := by omega
      subst hnl
      have := Own.map (q := rSeat) (G := fun k => w.heap.size ≤ k) Prod.fst hown2 (fun g x cs hx h => by
        have hx2 : x.2 = true := by
          simp only [tags, List.take_length, List.drop_length, List.map_nil, List.append_nil, List.mem_map] at hx
          obtain ⟨y, _, rfl⟩ := hx
          rfl
        exact rSeat_ok.mono h fun k hk => ⟨hk.2 hx2, hk.1.2⟩)
      have e : (tags l.length l).map Prod.fst = l := by
        simp only [tags, List.take_length, List.drop_length, List.map_nil, List.append_nil, List.map_map]
        exact List.map_id l
      rw [e] at this
      exact ⟨x1, rfl, this, hO2⟩

theorem list_c {w : World} {F : Nat → Prop} {b : Nat} {x : BookS} (h : Bk 47 w F b x) :
    Calls Try.prog 14 #[.pointer (some (Addr.add ⟨b, 0, none⟩ 0))] w fun e w' => ∃ s' : Sl, e = .returned s'.v ∧ Own rSeat 4 49 w.heap.size w' (fun k => w.heap.size ≤ k) s' x.l ∧ Only [] w w' := by
  refine (session_row_List_wp _ (fun v w' => ∃ s' : Sl, v = s'.v ∧ Own rSeat 4 49 w.heap.size w' (fun k => w.heap.size ≤ k) s' x.l ∧ Only [] w w') w ?_).mono (by
    rintro e w' ⟨v, rfl, s', rfl, h⟩; exact ⟨s', rfl, h⟩)
  unfold session_row_List_vc
  obtain ⟨s, h1, h2⟩ := h.seats
  refine ⟨s, Bk.c0 h1, (copied_c h2 (by have := h.ok.len; omega)).mono ?_⟩
  rintro _ w1 ⟨s', rfl, k1, k2⟩
  exact ⟨s', rfl, s', rfl, k1, k2⟩
theorem next_c {w : World} {F : Nat → Prop} {b : Nat} {x : BookS} (h : Bk 47 w F b x) :
    Calls Try.prog 15 #[.pointer (some ⟨b, 0, none⟩)] w fun e w' => e = .returned (.int .i64 x.n) ∧ Only [] w w' := by
  obtain ⟨s, h1, h2⟩ := h.seats
  exact ret (session_Book_Next_wp _ (fun v w' => v = _ ∧ Only [] w w') w ⟨x.n, Bk.c1 h1, rfl, Only.refl _ _⟩)
def newBook : BookS := ⟨[], 1⟩
theorem newBook_ok : newBook.Ok := ⟨by decide, by decide, by decide, List.Pairwise.nil, fun s hs => by simp [newBook] at hs⟩
theorem new_c (w : World) : Calls Try.prog 9 #[] w fun e w' => ∃ b, e = .returned (.pointer (some ⟨b, 0, none⟩)) ∧ Bk 47 w' (fun k => w.heap.size ≤ k) b newBook ∧ Only [] w w' := by
  refine (session_New_wp (fun v w' => ∃ b, v = .pointer (some ⟨b, 0, none⟩) ∧ Bk 47 w' (fun k => w.heap.size ≤ k) b newBook ∧ Only [] w w') w ?_).mono (by
    rintro e w' ⟨v, rfl, b, rfl, h⟩; exact ⟨b, rfl, h⟩)
  unfold session_New_vc
  intro b w1 hb1 hb2 hO hB
  exact ⟨b, rfl, ⟨newBook_ok, hb1, Sl.nil, hB, Own.nil _ _ _ _ _ _, fun g hg => by cases hg⟩, hO⟩

/-! ## Restore -/
def badSeat (last next : Int) (s : Seat) : Bool := decide (s.i ≤ last) || decide (s.i ≥ next) || decide (s.l < 0) || decide ((s.r.length : Int) > 65536) || ((s.l == 0) && decide ((s.r.length : Int) > 0)) || decide (s.u < 0) || decide (s.u > 1099511627826)
def fitsB (next : Int) : Int → List Seat → Bool
  | _, [] => true
  | last, s :: l => !badSeat last next s && fitsB next s.i l
def restoreOk (l : List Seat) (next : Int) : Bool := fitsB next 0 l && decide (l.length ≤ 8) && decide (next ≥ 1)
theorem fitsB_spec : ∀ {l : List Seat} {last next : Int}, fitsB next last l = true → Rising l ∧ ∀ s, s ∈ l → last < s.i ∧ s.i < next ∧ 0 ≤ s.l ∧ s.r.length ≤ 65536 ∧ (s.l = 0 → s.r = []) ∧ 0 ≤ s.u ∧ s.u ≤ 1099511627826
  | [], _, _, _ => ⟨List.Pairwise.nil, fun s hs => by simp at hs⟩
  | s :: l, last, next, h => by
    simp only [fitsB, badSeat, Bool.and_eq_true, Bool.not_eq_true', Bool.or_eq_false_iff, decide_eq_false_iff_not, Bool.and_eq_false_iff, beq_eq_false_iff_ne] at h
    obtain ⟨⟨⟨⟨⟨⟨⟨h1, h2⟩, h3⟩, h4⟩, h5⟩, h6⟩, h7⟩, h8⟩ := h
    obtain ⟨k1, k2⟩ := fitsB_spec h8
    have hs : last < s.i ∧ s.i < next ∧ 0 ≤ s.l ∧ s.r.length ≤ 65536 ∧ (s.l = 0 → s.r = []) ∧ 0 ≤ s.u ∧ s.u ≤ 1099511627826 := by
      refine ⟨by omega, by omega, by omega, by omega, fun h0 => ?_, by omega, by omega⟩
      rcases h5 with h5 | h5
      · exact absurd h0 h5
      · exact List.eq_nil_of_length_eq_zero (by omega)
    refine ⟨List.pairwise_cons.2 ⟨fun t ht => (k2 t ht).1, k1⟩, fun t ht => ?_⟩
    rcases List.mem_cons.1 ht with rfl | ht
    · exact hs
    · obtain ⟨g1, g2⟩ := k2 t ht
      exact ⟨by omega, g2⟩
theorem fitsB_of : ∀ {l : List Seat} {last next : Int}, Rising l → (∀ s, s ∈ l → last < s.i ∧ s.i < next ∧ 0 ≤ s.l ∧ s.r.length ≤ 65536 ∧ (s.l = 0 → s.r = []) ∧ 0 ≤ s.u ∧ s.u ≤ 1099511627826) → fitsB next last l = true
  | [], _, _, _, _ => rfl
  | s :: l, last, next, hp, h => by
    obtain ⟨p1, p2⟩ := List.pairwise_cons.1 hp
    obtain ⟨h1, h2, h3, h4, h5, h6, h7⟩ := h s (by simp)
    have ih := fitsB_of (last := s.i) (next := next) p2 fun t ht => ⟨p1 t ht, (h t (by simp [ht])).2⟩
    simp only [fitsB, ih, Bool.and_true, badSeat, Bool.not_eq_true', Bool.or_eq_false_iff, decide_eq_false_iff_not, Bool.and_eq_false_iff, beq_eq_false_iff_ne]
    refine ⟨⟨⟨⟨⟨⟨by omega, by omega⟩, by omega⟩, by omega⟩, ?_⟩, by omega⟩, by omega⟩
    by_cases h0 : s.l = 0
    · rw [h5 h0]; exact .inr (by simp)
    · exact .inl h0
theorem restoreOk_ok {l : List Seat} {next : Int} (h : restoreOk l next = true) (hn : InI next) : BookS.Ok ⟨l, next⟩ := by
  simp only [restoreOk, Bool.and_eq_true, decide_eq_true_eq] at h
  obtain ⟨⟨h1, h2⟩, h3⟩ := h
  obtain ⟨k1, k2⟩ := fitsB_spec h1
  exact ⟨h3, hn.2, h2, k1, k2⟩
theorem restoreOk_of {x : BookS} (h : x.Ok) : restoreOk x.l x.n = true := by
  simp only [restoreOk, Bool.and_eq_true, decide_eq_true_eq]
  exact ⟨⟨fitsB_of h.up h.each, h.len⟩, h.n0⟩

theorem restore_c {w : World} {F : Nat → Prop} {s : Sl} {l : List Seat} (h : Seats w F s l) (next : Int) (hn : InI next) :
    Calls Try.prog 17 #[Sl.v s, .int .i64 next] w fun e w' => Only [] w w' ∧ (restoreOk l next = false → e = .returned (.tuple #[.pointer none, .int .i64 1])) ∧
      (restoreOk l next = true → ∃ b, e = .returned (.tuple #[.pointer (some ⟨b, 0, none⟩), .int .i64 0]) ∧ Bk 47 w' (fun k => w.heap.size ≤ k) b ⟨l, next⟩) := by
  refine (session_Restore_wp s next (fun v w' => Only [] w w' ∧ (restoreOk l next = false → v = .tuple #[.pointer none, .int .i64 1]) ∧
      (restoreOk l next = true → ∃ b, v = .tuple #[.pointer (some ⟨b, 0, none⟩), .int .i64 0] ∧ Bk 47 w' (fun k => w.heap.size ≤ k) b ⟨l, next⟩)) w ?_).mono (by
    rintro e w' ⟨v, rfl, h1, h2, h3⟩
    exact ⟨h1, fun h => by rw [h2 h], fun h => by obtain ⟨b, g1, g2⟩ := h3 h; exact ⟨b, by rw [g1], g2⟩⟩)
  unfold session_Restore_vc
  have hlen := h.len
  have hbig := h.big
  have hcap := h.cap
  refine ⟨fun nv last t w' => ∃ n : Nat, n ≤ l.length ∧ t = (n : Int) ∧ nv = l.length - n ∧ fitsB next 0 l = fitsB next last (l.drop n) ∧ Only [] w w', l.length, ⟨0, Nat.zero_le _, rfl, rfl, rfl, Only.refl _ _⟩, ?_⟩
  rintro nv last _ w1 ⟨n, hn', rfl, rfl, hf, hO⟩
  refine ⟨fun hc => ?_, fun hc => ?_⟩
  · have hlt : (n : Int) < s.n := of_decide_eq_true hc
    have hnl : n < l.length := by omega
    obtain ⟨ad, x, cs, g1, g2, g3, g4, g5, d, rfl, g6⟩ := (SliceF.only rSeat_ok (by decide) h hO (by simp)).get (Int.natCast_nonneg n) hlt
    rw [Int.toNat_natCast, List.getElem?_eq_getElem hnl] at g2
    injection g2 with g2
    have hdl := g6.d.len
    have hb : ((((((((decide (x.i ≤ last)) || (decide (x.i ≥ next))) || (decide (x.l < 0))) || (decide ((↑(Sl.n d) : Int) > 65536))) || ((x.l == 0) && (decide ((↑(Sl.n d) : Int) > 0)))) || (decide (x.u < 0))) || (decide (x.u > 1099511627826)))) = badSeat last next x := by
      rw [hdl]; rfl
    rw [List.drop_eq_getElem_cons hnl, g2] at hf
    simp only [fitsB] at hf
    refine ⟨ad, g1, _, _, d, _, g5, fun hc2 bb w2 hb1 hb2 hO2 => ?_, fun hc2 bb w2 hb1 hb2 hO2 => ?_⟩
    · rw [hb] at hc2
      rw [hc2] at hf
      have hr : restoreOk l next = false := by simp only [restoreOk, hf, Bool.not_true, Bool.false_and]
      exact ⟨hO.tr0 hO2, fun _ => rfl, fun h => by rw [hr] at h; cases h⟩
    · rw [hb] at hc2
      rw [hc2] at hf
      rw [wr' (x := (n : Int) + 1) (by omega) (by omega)]
      exact ⟨l.length - (n + 1), by omega, n + 1, by omega, by omega, rfl, by simpa using hf, hO.tr0 hO2⟩
  · have hge : ¬ ((n : Int) < s.n) := of_decide_eq_false hc
    rw [List.drop_eq_nil_of_le (by omega)] at hf
    simp only [fitsB] at hf
    refine ⟨fun hc2 => ?_, fun hc2 => ?_⟩
    · have hr : restoreOk l next = false := by
        simp only [restoreOk, hf, Bool.true_and, Bool.and_eq_false_iff, decide_eq_false_iff_not]
        simp only [Bool.or_eq_true, decide_eq_true_eq] at hc2
        omega
      exact ⟨hO, fun _ => rfl, fun h => by rw [hr] at h; cases h⟩
    · have hr : restoreOk l next = true := by
        simp only [restoreOk, hf, Bool.true_and, Bool.and_eq_true, decide_eq_true_eq]
        simp only [Bool.or_eq_false_iff, decide_eq_false_iff_not] at hc2
        omega
      have hok := restoreOk_ok hr hn
      have hl8 := hok.len
      dsimp only at hl8
      refine (copied_c (SliceF.only rSeat_ok (by decide) h hO (by simp)) (by omega)).mono ?_
      rintro _ w2 ⟨s', rfl, k1, hO2⟩
      refine ⟨s', rfl, fun b w3 hb1 hb2 hO3 hB3 => ?_⟩
      have hO03 := (hO.tr0 hO2).tr0 hO3
      have hs1 := hO.size
      have hs2 := hO2.size
      refine ⟨hO03, fun h => (by rw [hr] at h; cases h), fun _ => ⟨b, rfl, hok, by omega, s', hB3, ?_, fun g hg => ?_⟩⟩
      · refine (((k1.inHeap rSeat_ok).keep rSeat_ok fun k hk hlt => hO3.block k hlt (by simp)).low (Nat.zero_le _)).mono rSeat_ok fun k hk => ⟨by omega, by omega⟩
      · have := k1.blk hg
        dsimp only at this
        exact ⟨by omega, by omega⟩
end Go.Proofs.Ytahncinfbhjkgaa.Con
