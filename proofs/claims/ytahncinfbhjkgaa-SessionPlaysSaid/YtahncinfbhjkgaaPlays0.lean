/-
  Own work: the contract of SessionPlays: replies that are their owner's, the owner's writing over seats, the law.
-/
import Derived.Test.YtahncinfbhjkgaaRef2
import Derived.Test.YtahncinfbhjkgaaAgain
namespace Go.Proofs.Ytahncinfbhjkgaa.Con
open Go Go.RowKit Go.Kt Go.Proofs.Ytahncinfbhjkgaa.Vc
set_option linter.unusedSimpArgs false
set_option linter.unusedVariables false

theorem Room.lt {w : World} {d : Sl} (h : Room w d) {k : Nat} (hk : Mine d k) : k < w.heap.size := by
  rcases h.mem with h0 | ⟨g, o, cs, t, h1, h2, h3⟩
  · exact absurd h0 hk.1
  · have : d.blk = g := by simp [Sl.blk, h1]
    rw [hk.2, this]; exact h2.lt
theorem Room.keep {w w' : World} {d : Sl} (h : Room w d) (hk : ∀ k, Mine d k → k < w.heap.size → w'.heap[k]? = w.heap[k]?) : Room w' d := ⟨h.cap, h.big, by
  by_cases h0 : d.c = 0
  · exact .inl h0
  · rcases h.mem with h1 | ⟨g, o, cs, t, h1, h2, h3⟩
    · exact .inl h1
    · exact .inr ⟨g, o, cs, t, h1, (hk g ⟨h0, by simp [Sl.blk, h1]⟩ h2.lt).trans h2, h3⟩⟩
/-- a seat whose reply is its owner's -/
def rSeatR : Rp Seat := fun w F x cs => rSeat w F x cs ∧ ∃ d : Sl, cs[2]? = some (Sl.v d) ∧ Room w d ∧ ∀ k, Mine d k → F k
theorem rSeatR_ok : rSeatR.Ok where
  keep := by
    rintro w w' F x cs ⟨h1, d, h2, h3, h4⟩ hk
    exact ⟨rSeat_ok.keep h1 hk, d, h2, h3.keep fun k hm hlt => hk k (h4 k hm) hlt, h4⟩
  inHeap := by
    rintro w F x cs ⟨h1, d, h2, h3, h4⟩
    exact ⟨rSeat_ok.inHeap h1, d, h2, h3, fun k hm => ⟨h4 k hm, h3.lt hm⟩⟩
  mono := by
    rintro w F G x cs ⟨h1, d, h2, h3, h4⟩ hk
    exact ⟨rSeat_ok.mono h1 hk, d, h2, h3, fun k hm => hk k (h4 k hm)⟩
  one h v hv := rSeat_ok.one h.1 v hv
/-- elements of which some are done -/
def rTag2 {α : Type} (r q : Rp α) (G : Nat → Prop) : Rp (α × Bool) := fun w F x cs => (x.2 = false → r w F x.1 cs) ∧ (x.2 = true → q w (fun k => F k ∧ G k) x.1 cs)
theorem rTag2_ok {α : Type} {r q : Rp α} (hr : r.Ok) (hq : q.Ok) (G : Nat → Prop) : (rTag2 r q G).Ok where
  keep h hk := ⟨fun e => hr.keep (h.1 e) hk, fun e => hq.keep (h.2 e) fun k hF => hk k hF.1⟩
  inHeap h := ⟨fun e => hr.inHeap (h.1 e), fun e => hq.mono (hq.inHeap (h.2 e)) fun k hk => ⟨⟨hk.1.1, hk.2⟩, hk.1.2⟩⟩
  mono h hk := ⟨fun e => hr.mono (h.1 e) hk, fun e => hq.mono (h.2 e) fun k hF => ⟨hk k hF.1, hF.2⟩⟩
  one := by
    rintro w F ⟨x, t⟩ cs h v hv
    cases t
    · exact hr.one (h.1 rfl) v hv
    · exact hq.one (h.2 rfl) v hv
theorem Own.mineB {w : World} {F : Nat → Prop} {B : Nat} {e : TypeId} {s : Sl} {l : List UInt8} (h : Own rByte 1 e B w F s l) {k : Nat} (hk : Mine s k) : B ≤ k := by
  rcases h with ⟨rfl, _⟩ | ⟨g, css, tail, h1, h2, _⟩
  · exact absurd rfl hk.1
  · rw [hk.2]; simp [Sl.blk, h1, h2]

theorem copiedR_c {w : World} {F : Nat → Prop} {s : Sl} {l : List Seat} (h : Seats w F s l) (hm : l.length * 48 ≤ 140737488355328) :
    Calls Try.prog 33 #[Sl.v s] w fun e w' => ∃ s' : Sl, e = .returned s'.v ∧ Own rSeatR 4 49 w.heap.size w' (fun k => w.heap.size ≤ k) s' l ∧ Only [] w w' := by
  refine (session_copied_wp s (fun v w' => ∃ s' : Sl, v = s'.v ∧ Own rSeatR 4 49 w.heap.size w' (fun k => w.heap.size ≤ k) s' l ∧ Only [] w w') w ?_).mono (by
    rintro e w' ⟨v, rfl, s', rfl, h⟩; exact ⟨s', rfl, h⟩)
  unfold session_copied_vc
  have tok := rTag2_ok rSeat_ok rSeatR_ok (fun k => w.heap.size ≤ k)
  refine (sclone_c (h.inHeap rSeat_ok (by decide)) hm).mono ?_
  rintro e w1 ⟨x1, rfl, hown, hO1⟩
  refine ⟨x1, rfl, fun nv t w' => ∃ n : Nat, n ≤ l.length ∧ t = (n : Int) ∧ nv = l.length - n ∧ Only [] w w' ∧ Own (rTag2 rSeat rSeatR fun k => w.heap.size ≤ k) 4 49 w.heap.size w' (fun k => (F k ∧ k < w.heap.size) ∨ w.heap.size ≤ k) x1 (tags n l),
    l.length, ⟨0, Nat.zero_le _, rfl, rfl, hO1, ?_⟩, ?_⟩
  · have := Own.map (q := rTag2 rSeat rSeatR fun k => w.heap.size ≤ k) (G := fun k => (F k ∧ k < w.heap.size) ∨ w.heap.size ≤ k) (fun x => (x, false)) hown (fun g x cs _ hx => ⟨fun _ => rSeat_ok.mono hx fun k hk => ⟨.inl hk.1, hk.2⟩, fun h => (by cases h)⟩)
    simpa [tags] using this
  · rintro nv _ w2 ⟨n, hn, rfl, rfl, hO2, hown2⟩
    have hol := hown2.len
    rw [tags_len] at hol
    refine ⟨fun hc => ?_, fun hc => ?_⟩
    · have hlt : (n : Int) < x1.n := of_decide_eq_true hc
      have hn' : n < l.length := by omega
      obtain ⟨g, cells, cs, a1, a2, a3, a4, a5, ⟨b0, _⟩, _⟩ := hown2.set1 tok (tags_at hn')
      obtain ⟨d, rfl, b1, b2, b3, b4, b5⟩ := b0 rfl
      refine ⟨_, a2, d, a5.at1 2 _ rfl, (bclone_c b4 b5).mono ?_⟩
      rintro _ w3 ⟨d', rfl, k1, hO3⟩
      have hown3 := hown2.keep tok (w' := w3) fun k hk hlt => hO3.block k hlt (by simp)
      obtain ⟨g', cells', cs', a1', a2', a3', a4', a5', ⟨c0, _⟩, a7⟩ := hown3.set1 tok (tags_at hn')
      obtain ⟨d2, rfl, c1, c2, c3, c4, c5⟩ := c0 rfl
      have hs2 := hO2.size
      have hgl : g' < w2.heap.size := (hown2.blk a1').2
      have hgB : w.heap.size ≤ g' := (hown2.blk a1').1
      obtain ⟨q1, q2⟩ := a7 2 d'.v (l[n], true) (fun k => w2.heap.size ≤ k) (by decide)
        ⟨fun h => (by cases h), fun _ => ⟨⟨d', rfl, c1, c2, c3, (k1.slice rByte_ok).mono rByte_ok (fun k hk => hk.elim False.elim fun h => ⟨h.1, by omega⟩), c5⟩, d', rfl, Own.room k1, fun k hk => by have := Own.mineB k1 hk; exact ⟨this, by omega⟩⟩⟩ (fun k hk _ => ⟨.inr (by omega), by omega⟩)
      refine ⟨d', rfl, _, a2', g', n * 4 + 2, cells', _, by rw [addr_lit], a3', q1, fun w4 hO4 hb4 => ?_⟩
      rw [wr' (x := (n : Int) + 1) (by omega) (by have := h.big; have := h.len; have := h.cap; omega)]
      refine ⟨l.length - (n + 1), by omega, n + 1, by omega, by omega, rfl, (hO2.tr0 hO3).new hO4 hgB, ?_⟩
      rw [← tags_set hn']
      exact q2 w4 hO4 hb4
    · have hge : ¬ ((n : Int) < x1.n) := of_decide_eq_false hc
      have hnl : n = l.length := by omega
      subst hnl
      have := Own.map (q := rSeatR) (G := fun k => w.heap.size ≤ k) Prod.fst hown2 (fun g x cs hx h => by
        have hx2 : x.2 = true := by
          simp only [tags, List.take_length, List.drop_length, List.map_nil, List.append_nil, List.mem_map] at hx
          obtain ⟨y, _, rfl⟩ := hx
          rfl
        exact rSeatR_ok.mono (h.2 hx2) fun k hk => ⟨hk.2, hk.1.2⟩)
      have e : (tags l.length l).map Prod.fst = l := by
        simp only [tags, List.take_length, List.drop_length, List.map_nil, List.append_nil, List.map_map]
        exact List.map_id l
      rw [e] at this
      exact ⟨x1, rfl, this, hO2⟩
theorem listR_c {w : World} {F : Nat → Prop} {b : Nat} {x : BookS} (h : Bk 47 w F b x) :
    Calls Try.prog 14 #[.pointer (some (Addr.add ⟨b, 0, none⟩ 0))] w fun e w' => ∃ s' : Sl, e = .returned s'.v ∧ Own rSeatR 4 49 w.heap.size w' (fun k => w.heap.size ≤ k) s' x.l ∧ Only [] w w' := by
  refine (session_row_List_wp _ (fun v w' => ∃ s' : Sl, v = s'.v ∧ Own rSeatR 4 49 w.heap.size w' (fun k => w.heap.size ≤ k) s' x.l ∧ Only [] w w') w ?_).mono (by
    rintro e w' ⟨v, rfl, s', rfl, h⟩; exact ⟨s', rfl, h⟩)
  unfold session_row_List_vc
  obtain ⟨s, h1, h2⟩ := h.seats
  refine ⟨s, Bk.c0 h1, (copiedR_c h2 (by have := h.ok.len; omega)).mono ?_⟩
  rintro _ w1 ⟨s', rfl, k1, k2⟩
  exact ⟨s', rfl, s', rfl, k1, k2⟩

/-- Owned of one row -/
theorem own1 (w : World) (x : Sl) : ∃ y w1, (Instr.buildSlice 61 1 #[(0, Sl.v x)]).run Try.prog w = .ok (Sl.v y) w1 ∧ SliceF rSlRaw 1 w1 (fun k => w.heap.size ≤ k) y [x] ∧ Only [] w w1 := by
  obtain ⟨y, w5, m1, m2, m3, m4, m5, m6⟩ := build_own (P := Try.prog) (t := 61) (e := 27) (i := Try.t27) (z := .slice none 0 0) (w := w) (F := fun _ => False) (vs := [Sl.v x]) (parts := #[(0, Sl.v x)]) (len := 1) (xs := [x]) (r := rSlRaw) (size := 1) (by kernel_rfl) (by kernel_rfl) rfl rfl (by decide) rfl rfl (by decide) (by decide) rSlRaw_ok ⟨⟨rfl, rfl⟩, trivial⟩
  exact ⟨y, w5, m1, (m2.slice rSlRaw_ok).mono rSlRaw_ok fun k hk => hk.elim False.elim fun h => h.1, m3⟩

structure LG (g : Nat) (F : Nat → Prop) (n : Nat) (w : World) (css : List (List Value)) : Prop where
  len : css.length = n
  blk : ∃ tail, Blk w g 49 (css.flatten ++ tail)
  each : ∀ c, c ∈ css → ∃ (a b : Int) (d : Sl) (u : Int), c = [.int .i64 a, .int .i64 b, Sl.v d, .int .i64 u] ∧ Room w d ∧ ∀ k, Mine d k → F k ∧ k ≠ g
theorem over_c {w : World} {F : Nat → Prop} {B : Nat} {s : Sl} {l : List Seat} (h : Own rSeatR 4 49 B w F s l) (hl : l.length ≤ 1000) :
    Calls Try.prog 24 #[Sl.v s] w fun e w' => e = .returned (.tuple #[]) ∧ OnlyP (fun k => F k ∨ s.a = some ⟨k, 0, none⟩) w w' := by
  refine ret (pavanelaw19_over_wp s (fun v w' => v = .tuple #[] ∧ OnlyP (fun k => F k ∨ s.a = some ⟨k, 0, none⟩) w w') w ?_)
  unfold pavanelaw19_over_vc
  have hsl := h.len
  rcases h with ⟨rfl, rfl⟩ | ⟨g, css, tail, a1, a2, a4, a5, a6, a7, a9, a8⟩
  · refine ⟨fun nv i w' => i = 0 ∧ w = w', 0, ⟨rfl, rfl⟩, ?_⟩
    rintro nv _ _ ⟨rfl, rfl⟩
    exact ⟨fun hc => (by have hc : (0 : Int) < (0 : Nat) := of_decide_eq_true hc; omega), fun _ => ⟨rfl, OnlyP.refl _ _⟩⟩
  have hG0 : LG g F l.length w css := ⟨a8.len.symm, ⟨tail, a4⟩, fun c hc => by
    obtain ⟨x, _, ⟨d, rfl, _⟩, d', e1, e2, e3⟩ := a8.mem c hc
    simp only [List.getElem?_cons_succ, List.getElem?_cons_zero, Option.some.injEq] at e1
    have : d = d' := by
      cases d; cases d'
      simp only [Sl.v, Value.slice.injEq] at e1
      obtain ⟨rfl, rfl, rfl⟩ := e1
      rfl
    subst this
    exact ⟨_, _, d, _, rfl, e2, e3⟩⟩
  refine ⟨fun nv i w' => ∃ (n : Nat) (css : List (List Value)), i = (n : Int) ∧ n ≤ l.length ∧ nv = l.length - n ∧ LG g F l.length w' css ∧ OnlyP (fun k => F k ∨ s.a = some ⟨k, 0, none⟩) w w', l.length, ⟨0, css, rfl, Nat.zero_le _, rfl, hG0, OnlyP.refl _ _⟩, ?_⟩
  rintro nv _ w1 ⟨n, cs, rfl, hn, rfl, hG, hO⟩
  refine ⟨fun hc => ?_, fun hc => ⟨rfl, hO⟩⟩
  have hlt : (n : Int) < s.n := of_decide_eq_true hc
  have hcl := hG.len
  have hn' : n < cs.length := by omega
  obtain ⟨tail, hb⟩ := hG.blk
  have hsz : ∀ c, c ∈ cs → c.length = 4 := fun c hc => by
    obtain ⟨_, _, _, _, rfl, _⟩ := hG.each c hc; rfl
  obtain ⟨p, q, d, u, hce, hr, hm⟩ := hG.each cs[n] (List.getElem_mem hn')
  have hgn : cs[n]? = some [.int .i64 p, .int .i64 q, Sl.v d, .int .i64 u] := by rw [List.getElem?_eq_getElem hn', hce]
  have hfl : cs.flatten.length = cs.length * 4 := flat_len hsz
  have hat : SlAt s n 4 ⟨g, n * 4, none⟩ := ⟨_, a1, by omega, hlt, by rw [addr_lit, Int.toNat_natCast, Nat.zero_add]⟩
  obtain ⟨y, w2, m1, m2, hO2⟩ := own1 w1 d
  refine ⟨_, hat, d, ?_, y, w2, m1, (owned2_c m2 (hr.keep fun k _ hlt => hO2.block k hlt (by simp)) fun k hk hmk => by have := hr.lt hmk; omega).mono ?_⟩
  · rw [addr_lit]
    refine hb.cells _ _ fun j v hj => ?_
    cases j with
    | zero =>
      simp only [List.getElem?_cons_zero, Option.some.injEq] at hj
      subst hj
      have := flat_at hsz hgn (i := 2) (v := Sl.v d) rfl
      rw [Nat.add_zero, List.getElem?_append_left (List.getElem?_eq_some_iff.1 this).1]
      exact this
    | succ j => simp at hj
  rintro _ w3 ⟨t, rfl, hP3, hS3⟩
  have hg1 := hb.lt
  have hs2 := hO2.size
  have hb3 : Blk w3 g 49 (cs.flatten ++ tail) := hP3.blk (hO2.blk hb (by simp)) fun hk => (hm g hk).2 rfl
  refine ⟨t, rfl, _, hat, g, n * 4, _, _, rfl, hb3, by rw [List.length_append]; omega, fun w4 hO4 hb4 => ?_⟩
  rw [flat_splice hsz hgn rfl] at hb4
  have hS4 : Shape w3 w4 := hO4.shape1 hb3 hb4 (by
    have : ∀ c, c ∈ cs.set n [.int .i64 (-7), .int .i64 0, Sl.v Sl.nil, .int .i64 0] → c.length = 4 := fun c hc => by
      rcases List.mem_or_eq_of_mem_set hc with hc | rfl
      · exact hsz c hc
      · rfl
    rw [List.length_append, List.length_append, flat_len this, hfl, List.length_set])
  have hS14 : Shape w1 w4 := (hO2.shape.trans hS3).trans hS4
  rw [wr' (x := (n : Int) + 1) (by omega) (by omega)]
  refine ⟨l.length - (n + 1), by omega, n + 1, _, by omega, by omega, rfl, ⟨by rw [List.length_set]; exact hcl, ⟨tail, hb4⟩, fun c hc => ?_⟩, ?_⟩
  · rcases List.mem_or_eq_of_mem_set hc with hc | rfl
    · obtain ⟨p, q, d, u, e1, e2, e3⟩ := hG.each c hc
      exact ⟨p, q, d, u, e1, e2.shape hS14, e3⟩
    · exact ⟨_, _, Sl.nil, _, rfl, ⟨Nat.le_refl _, by decide, .inl rfl⟩, fun k hk => absurd rfl hk.1⟩
  · exact ((hO.tr0 hO2).trans hP3 fun k hk => .inl (.inl (hm k hk).1)).trans (hO4.p (F := fun k => F k ∨ s.a = some ⟨k, 0, none⟩) fun k hk => .inl (by simp only [List.mem_singleton] at hk; subst hk; exact .inr a1)) fun k hk => .inl hk
end Go.Proofs.Ytahncinfbhjkgaa.Con
