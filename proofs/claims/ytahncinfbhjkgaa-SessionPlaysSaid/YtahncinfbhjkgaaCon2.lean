/-
  Own work: what the functions of the session package do: Open, Note, copies, List, New, Next, Restore.
-/
import Derived.Test.YtahncinfbhjkgaaCon
namespace Go.Proofs.Ytahncinfbhjkgaa.Con
open Go Go.RowKit Go.Kt Go.Proofs.Ytahncinfbhjkgaa.Vc
set_option linter.unusedSimpArgs false
set_option linter.unusedVariables false

/-! ## Open -/
def openE (x : BookS) (now : Int) : Int := if now < 0 ∨ now > 1099511627776 then 1 else if x.l.length ≥ 8 ∨ x.n = 9223372036854775807 then 40 else 0
def openN (x : BookS) (now : Int) : Int := if openE x now = 0 then x.n else 0
def newSeat (x : BookS) (now : Int) : Seat := ⟨x.n, 0, [], now + 50⟩
def openS (x : BookS) (now : Int) : BookS := if openE x now = 0 then ⟨x.l ++ [newSeat x now], x.n + 1⟩ else x
theorem openE_zero {x : BookS} {now : Int} (h : openE x now = 0) : 0 ≤ now ∧ now ≤ 1099511627776 ∧ x.l.length < 8 ∧ x.n ≠ 9223372036854775807 := by
  simp only [openE] at h
  split at h
  · cases h
  · split at h
    · cases h
    · omega
theorem openS_ok {x : BookS} (hx : x.Ok) (now : Int) : (openS x now).Ok := by
  simp only [openS]
  split
  · rename_i h
    obtain ⟨h1, h2, h3, h4⟩ := openE_zero h
    have h0 := hx.n0
    have h1' := hx.n1
    refine ⟨by dsimp only; omega, by dsimp only; omega, by simp; omega, ?_, ?_⟩
    · refine List.pairwise_append.2 ⟨hx.up, by simp, fun a ha c hc => ?_⟩
      simp only [List.mem_singleton] at hc
      subst hc
      exact (hx.each a ha).2.1
    · intro s hs
      rcases List.mem_append.1 hs with hs | hs
      · obtain ⟨g1, g2, g3⟩ := hx.each s hs
        exact ⟨g1, by dsimp only; omega, g3⟩
      · simp only [List.mem_singleton] at hs
        subst hs
        simp only [newSeat]
        refine ⟨by omega, by omega, by omega, by simp, fun _ => trivial, by omega, by omega⟩
  · exact hx

/-- the end of an Open: the seats have one more -/
theorem Bk.grown {ty : TypeId} {w w2 w3 : World} {F : Nat → Prop} {b : Nat} {l' : List Seat} {n' : Int} {s s' : Sl}
    (hF : F b) (hg : ∀ g, s.a = some ⟨g, 0, none⟩ → F g ∧ g ≠ b) (hbw : b < w.heap.size) (hok : BookS.Ok ⟨l', n'⟩)
    (hown : Own rSeat 4 49 0 w2 (fun k => (F k ∧ k ≠ b) ∨ w.heap.size ≤ k) s' l') (hsa : s'.a = s.a ∨ ∃ g, s'.a = some ⟨g, 0, none⟩ ∧ w.heap.size ≤ g)
    (hO3 : Only [b] w2 w3) (hb3 : Blk w3 b ty [s'.v, .int .i64 n']) : Bk ty w3 (fun k => F k ∨ w.heap.size ≤ k) b ⟨l', n'⟩ := by
  have hsa' : ∀ g, s'.a = some ⟨g, 0, none⟩ → (F g ∨ w.heap.size ≤ g) ∧ g ≠ b := fun g hg' => by
    rcases hsa with h | ⟨g2, h, h2⟩
    · rw [h] at hg'
      exact ⟨.inl (hg g hg').1, (hg g hg').2⟩
    · rw [h] at hg'
      injection hg' with hg'
      injection hg' with hg'
      subst hg'
      exact ⟨.inr h2, by omega⟩
  refine ⟨hok, .inl hF, s', hb3, ?_, hsa'⟩
  refine (hown.keep rSeat_ok fun k hk hlt => hO3.block k hlt ?_).mono rSeat_ok fun k hk => ?_
  · simp only [List.mem_singleton]
    rcases hk with hk | ⟨_, hk⟩
    · rcases hk with hk | hk
      · exact hk.2
      · omega
    · exact (hsa' k hk).2
  · rcases hk with hk | hk
    · exact ⟨.inl hk.1, hk.2⟩
    · exact ⟨.inr hk, by omega⟩

theorem open_c {w : World} {F : Nat → Prop} {b : Nat} {x : BookS} (h : Bk 47 w F b x) (now : Int) :
    Calls Try.prog 12 #[.pointer (some ⟨b, 0, none⟩), .int .i64 now] w fun e w' => e = .returned (.tuple #[.int .i64 (openN x now), .int .i64 (openE x now)]) ∧ Bk 47 w' (fun k => F k ∨ w.heap.size ≤ k) b (openS x now) ∧ OnlyP F w w' := by
  refine ret (session_Book_Open_wp _ now (fun v w' => v = .tuple #[.int .i64 (openN x now), .int .i64 (openE x now)] ∧ Bk 47 w' (fun k => F k ∨ w.heap.size ≤ k) b (openS x now) ∧ OnlyP F w w') w ?_)
  unfold session_Book_Open_vc
  refine (tick_c w now).mono ?_
  rintro _ w1 ⟨rfl, hO1⟩
  have stay : ∀ {w' : World}, openE x now ≠ 0 → Only [] w w' → Bk 47 w' (fun k => F k ∨ w.heap.size ≤ k) b (openS x now) ∧ OnlyP F w w' := fun hE hO => by
    simp only [openS, if_neg hE]
    exact ⟨(h.only0 hO).mono fun k hk => .inl hk, hO.p0⟩
  refine ⟨_, rfl, fun hc => ?_, fun hc => ?_⟩
  · have hE : openE x now = 1 := by
      simp only [openE]
      rw [if_pos]
      simp only [Bool.not_eq_true', Bool.and_eq_false_iff, decide_eq_false_iff_not] at hc
      omega
    refine ⟨by simp [openN, hE], stay (by rw [hE]; decide) hO1⟩
  · have hr : 0 ≤ now ∧ now ≤ 1099511627776 := by
      simp only [Bool.not_eq_false', Bool.and_eq_true, decide_eq_true_eq] at hc
      omega
    have hok := openS_ok h.ok now
    have hE0 : openE x now = if x.l.length ≥ 8 ∨ x.n = 9223372036854775807 then 40 else 0 := by
      simp only [openE]; rw [if_neg (by omega)]
    obtain ⟨s, h1, h2, h3⟩ := (h.only0 hO1).at_
    have hsl := h2.len
    have hn1 := h.ok.n1
    have hn0 := h.ok.n0
    refine ⟨fun t w' => t = decide (x.l.length ≥ 8 ∨ x.n = 9223372036854775807) ∧ w1 = w', ?_, s, Bk.c0 h1, fun hc2 => ⟨?_, rfl⟩, fun hc2 => ⟨x.n, Bk.c1 h1, ?_, rfl⟩⟩
    · rintro _ _ ⟨rfl, rfl⟩
      refine ⟨fun ht => ?_, fun ht => ?_⟩
      · have ht := of_decide_eq_true ht
        have hE : openE x now = 40 := by rw [hE0, if_pos ht]
        exact ⟨by simp [openN, hE], stay (by rw [hE]; decide) hO1⟩
      · have ht := of_decide_eq_false ht
        have hE : openE x now = 0 := by rw [hE0, if_neg ht]
        simp only [openS, hE, if_true] at hok ⊢
        refine ⟨x.n, Bk.c1 h1, x.n, Bk.c1 h1, b, 1, _, _, rfl, h1, by simp, fun w2 hO2 hb2 => ?_⟩
        rw [wr' (x := x.n + 1) (by omega) (by omega)] at hb2
        rw [wr' (x := now + 50) (by omega) (by omega)]
        replace hb2 : Blk w2 b 47 [s.v, .int .i64 (x.n + 1)] := hb2
        refine ⟨s, Bk.c0 hb2, ?_⟩
        have hown2 := h2.keep rSeat_ok (w' := w2) fun k hk hlt => hO2.block k hlt (by
          simp only [List.mem_singleton]
          rcases hk with hk | ⟨_, hk⟩
          · exact hk.2
          · exact (h3 k hk).2)
        obtain ⟨y, w3, k1, k2, s', w4, k3, k4, ⟨gs, k5, k6⟩, k7⟩ := app_one (P := Try.prog) (t := 42) (ty := 42) (e := 49) (i := Try.t49) (bytes := 48) (G := fun _ => False) (v := .agg #[.int .i64 x.n, .int .i64 0, Sl.v Sl.nil, .int .i64 (now + 50)]) (x := newSeat x now)
          (by kernel_rfl) (by kernel_rfl) rfl rfl rfl rfl (by decide) (by decide) (by decide) rSeat_ok hown2 (Nat.zero_le _) rfl ⟨Sl.nil, rfl, ⟨by show _ ≤ x.n; omega, hn1⟩, (show InI 0 from ⟨by decide, by decide⟩), ⟨by show _ ≤ now + 50; omega, by show now + 50 ≤ _; omega⟩, SliceF.nil _ _ _ _, by simp [newSeat]⟩ (fun k hk => hk.elim) (by omega)
        refine ⟨y, w3, k1, s', w4, k3, ?_⟩
        have hbn : b ∉ gs := fun hm => (h3 b (k6 b hm).1).2 rfl
        have hb4 : Blk w4 b 47 [s.v, .int .i64 (x.n + 1)] := k5.blk (k2.blk hb2 (by simp)) hbn
        refine ⟨b, 0, _, _, rfl, hb4, by simp, fun w5 hO5 hb5 => ?_⟩
        have hs1 := hO1.size
        have hs2 := hO2.size
        have hb1 := h.lt
        refine ⟨by simp [openN, hE], ?_, ?_⟩
        · refine (Bk.grown (w := w2) (F := F) (s := s) (s' := s') h.fb h3 (by omega) hok k4 k7 hO5 hb5).mono fun k hk => hk.imp id fun hk => by omega
        · refine (((hO1.p0 (F := F)).trans (hO2.p (F := F) fun g hg => .inl (by simp only [List.mem_singleton] at hg; subst hg; exact h.fb)) fun k hk => .inl hk).tr0 k2).trans ((k5.p (F := F) fun g hg => .inl (h3 g (k6 g hg).1).1).trans (hO5.p (F := F) fun g hg => .inl (by simp only [List.mem_singleton] at hg; subst hg; exact h.fb)) fun k hk => .inl hk) fun k hk => .inl hk
    · rw [hc2]
      have hc2 : (s.n : Int) ≥ 8 := of_decide_eq_true hc2
      exact (decide_eq_true (.inl (by omega))).symm
    · have hc2 : ¬ (s.n : Int) ≥ 8 := of_decide_eq_false hc2
      by_cases hx : x.n = 9223372036854775807
      · simp [hx]
      · rw [decide_eq_false (by omega)]
        simpa using hx

/-! ## Note -/
def noteE (x : BookS) (id seq now : Int) (r : List UInt8) : Int := if now < 0 ∨ now > 1099511627776 ∨ (askS x.l id seq).1 ≠ 1 then 1 else if r.length > 65536 then 2 else 0
def noteS (x : BookS) (id seq now : Int) (r : List UInt8) : BookS := if noteE x id seq now r = 0 then ⟨setS x.l ⟨id, seq, r, now + 50⟩, x.n⟩ else x
theorem ask_one {l : List Seat} {id seq : Int} (h : (askS l id seq).1 = 1) : ∃ s, findS l id = some s ∧ s.l < seq ∧ 1 ≤ seq := by
  simp only [askS] at h
  split at h
  · cases h
  · rename_i s hs
    split at h
    · cases h
    · split at h
      · cases h
      · exact ⟨s, hs, by omega, by omega⟩
theorem setS_ids (l : List Seat) (s : Seat) : (setS l s).map (·.i) = l.map (·.i) := by
  simp only [setS, List.map_map]
  apply List.map_congr_left
  intro x _
  simp only [Function.comp_apply]
  split
  · rename_i h; exact h.symm
  · rfl
theorem rising_ids {l m : List Seat} (h : l.map (·.i) = m.map (·.i)) (hp : Rising l) : Rising m := by
  have h1 : (l.map (·.i)).Pairwise (fun a b => a < b) := List.pairwise_map.2 hp
  rw [h] at h1
  exact List.pairwise_map.1 h1
theorem noteE_zero {x : BookS} {id seq now : Int} {r : List UInt8} (h : noteE x id seq now r = 0) : 0 ≤ now ∧ now ≤ 1099511627776 ∧ (askS x.l id seq).1 = 1 ∧ r.length ≤ 65536 := by
  simp only [noteE] at h
  split at h
  · cases h
  · split at h
    · cases h
    · omega
theorem noteS_ok {x : BookS} (hx : x.Ok) {id seq now : Int} (r : List UInt8) : (noteS x id seq now r).Ok := by
  simp only [noteS]
  split
  · rename_i h
    obtain ⟨h1, h2, h3, h4⟩ := noteE_zero h
    obtain ⟨s, g1, g2, g3⟩ := ask_one h3
    refine ⟨hx.n0, hx.n1, by simp only [setS, List.length_map]; exact hx.len, rising_ids (setS_ids _ _).symm hx.up, ?_⟩
    intro t ht
    simp only [setS, List.mem_map] at ht
    obtain ⟨y, hy, rfl⟩ := ht
    have e := hx.each y hy
    split
    · rename_i hi
      dsimp only at hi ⊢
      obtain ⟨m1, m2⟩ := find_mem g1
      have e2 := hx.each s m1
      rw [m2] at e2
      exact ⟨e2.1, e2.2.1, by omega, h4, fun h => by omega, by omega, by omega⟩
    · exact e
  · exact hx

theorem note_c {w : World} {F G : Nat → Prop} {b : Nat} {x : BookS} (h : Bk 47 w F b x) {reply : Sl} {r : List UInt8} (hr : SliceF rByte 1 w G reply r) (hm : r.length ≤ 140737488355328) (id seq now : Int) (hseq : InI seq) (hid : InI id) :
    Calls Try.prog 25 #[.pointer (some ⟨b, 0, none⟩), .int .i64 id, .int .i64 seq, .int .i64 now, Sl.v reply] w fun e w' => e = .returned (.int .i64 (noteE x id seq now r)) ∧ Bk 47 w' (fun k => F k ∨ w.heap.size ≤ k) b (noteS x id seq now r) ∧ OnlyP F w w' := by
  refine ret (session_Book_Note_wp _ id seq now reply (fun v w' => v = .int .i64 (noteE x id seq now r) ∧ Bk 47 w' (fun k => F k ∨ w.heap.size ≤ k) b (noteS x id seq now r) ∧ OnlyP F w w') w ?_)
  unfold session_Book_Note_vc
  refine (ask_c h id seq).mono ?_
  rintro _ w1 ⟨sr, rfl, _, hO1⟩
  have stay : ∀ {w' : World}, noteE x id seq now r ≠ 0 → Only [] w w' → Bk 47 w' (fun k => F k ∨ w.heap.size ≤ k) b (noteS x id seq now r) ∧ OnlyP F w w' := fun hE hO => by
    simp only [noteS, if_neg hE]
    exact ⟨(h.only0 hO).mono fun k hk => .inl hk, hO.p0⟩
  have hrl := hr.len
  refine ⟨_, sr, rfl, fun t w' => t = decide (now < 0 ∨ now > 1099511627776 ∨ (askS x.l id seq).1 ≠ 1) ∧ Only [] w w', ?_, ?_⟩
  · rintro _ w2 ⟨rfl, hO2⟩
    refine ⟨fun ht => ?_, fun ht => ?_⟩
    · have ht := of_decide_eq_true ht
      have hE : noteE x id seq now r = 1 := by simp only [noteE, if_pos ht]
      exact ⟨by rw [hE], stay (by rw [hE]; decide) hO2⟩
    · have ht := of_decide_eq_false ht
      have hE0 : noteE x id seq now r = if r.length > 65536 then 2 else 0 := by simp only [noteE, if_neg ht]
      refine ⟨fun hc => ?_, fun hc => ?_⟩
      · have hc : (reply.n : Int) > 65536 := of_decide_eq_true hc
        have hE : noteE x id seq now r = 2 := by rw [hE0, if_pos (by omega)]
        exact ⟨by rw [hE], stay (by rw [hE]; decide) hO2⟩
      · have hc : ¬ (reply.n : Int) > 65536 := of_decide_eq_false hc
        have hE : noteE x id seq now r = 0 := by rw [hE0, if_neg (by omega)]
        have hok := noteS_ok h.ok (id := id) (seq := seq) (now := now) r
        simp only [noteS, hE, if_true] at hok ⊢
        obtain ⟨z1, z2, z3, z4⟩ := noteE_zero hE
        obtain ⟨y0, f1, f2, f3⟩ := ask_one z3
        refine (at_c (h.only0 hO2) id).mono ?_
        rintro _ w3 ⟨k, t, rfl, g1, hO3⟩
        have hO03 := hO2.tr0 hO3
        obtain ⟨s, h1, h2, h3⟩ := (h.only0 hO03).at_
        refine ⟨k, t, rfl, s, Bk.c0 h1, fun w4 hO4 => ?_⟩
        have hO04 := hO03.tr0 hO4
        refine (bclone_c (SliceF.only rByte_ok (by decide) hr hO04 (by simp)) hm).mono ?_
        rintro _ w5 ⟨s', rfl, k1, hO5⟩
        have hO05 := hO04.tr0 hO5
        have hO35 := hO4.tr0 hO5
        have hb1 := h.lt
        have hs4 := hO04.size
        have hs3 := hO03.size
        have ht : t = true := by
          rcases g1 with ⟨h, _⟩ | ⟨_, g1⟩
          · exact h
          · rw [find_none g1] at f1; cases f1
        subst ht
        rcases g1 with ⟨_, n, y, rfl, e1, e2⟩ | ⟨h, _⟩
        case inr => cases h
        have hown5 := h2.keep rSeat_ok (w' := w5) fun k hk hlt => hO35.block k hlt (by simp)
        rw [wr' (x := now + 50) (by omega) (by omega)]
        have hst := (hown5.inHeap rSeat_ok).mono (G := fun k => (F k ∧ k ≠ b) ∨ w.heap.size ≤ k) rSeat_ok (fun k hk => .inl hk.1)
        obtain ⟨g, cells, p1, p2, p3, p4, p5⟩ := Own.store (G := fun k => w4.heap.size ≤ k) (x := ⟨id, seq, r, now + 50⟩) (n := n) (vs := [.int .i64 id, .int .i64 seq, Sl.v s', .int .i64 (now + 50)]) rSeat_ok hst (List.getElem?_eq_some_iff.1 e1).1 rfl
          ⟨s', rfl, hid, hseq, ⟨by show _ ≤ now + 50; omega, by show now + 50 ≤ _; omega⟩, (k1.slice rByte_ok).mono rByte_ok fun k hk => hk.elim False.elim fun h => h.1, hm⟩
          (fun k hk hlt => ⟨.inr (by omega), fun ha => by have h' : k < w3.heap.size := (h2.blk ha).2; have := hO4.size; omega⟩) (by decide)
        refine ⟨s', rfl, hO5.same (by simp only [addr_block, List.mem_singleton]; rintro _ rfl; exact ⟨by omega, by simp⟩), _, p2, g, n * 4, cells, _, rfl, p3, p4, fun w6 hO6 hb6 => ?_⟩
        obtain ⟨q1, q2⟩ := h3 g p1
        have p6 := p5 w6 hO6 hb6
        rw [set_at (t := ⟨id, seq, r, now + 50⟩) h.ok.up e1 (by rw [e2])] at p6
        refine ⟨trivial, ⟨hok, .inl h.fb, s, (hO6.blk ((hO35.blk h1 (by simp))) (by simp; omega)), p6.mono rSeat_ok fun k hk => ?_, fun g' hg' => ⟨.inl (h3 g' hg').1, (h3 g' hg').2⟩⟩, (hO05.p0 (F := F)).trans (hO6.p (F := F) fun g' hg' => .inl (by simp only [List.mem_singleton] at hg'; subst hg'; exact q1)) fun k hk => .inl hk⟩
        rcases hk with hk | hk
        · exact ⟨.inl hk.1, hk.2⟩
        · exact ⟨.inr hk, by omega⟩
  · refine (tick_c w1 now).mono ?_
    rintro _ w2 ⟨rfl, hO2⟩
    refine ⟨_, rfl, fun hc => ⟨?_, hO1.tr0 hO2⟩, fun hc => ⟨?_, hO1.tr0 hO2⟩⟩
    · rw [hc]
      simp only [Bool.not_eq_true', Bool.and_eq_false_iff, decide_eq_false_iff_not] at hc
      exact (decide_eq_true (by omega)).symm
    · simp only [Bool.not_eq_false', Bool.and_eq_true, decide_eq_true_eq] at hc
      by_cases hx : (askS x.l id seq).1 = 1
      · rw [decide_eq_false (by omega)]; simp [hx]
      · rw [decide_eq_true (by omega)]; simpa using hx
end Go.Proofs.Ytahncinfbhjkgaa.Con
