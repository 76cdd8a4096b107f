/-
  Own work: what the functions of the document's own book (pavaneref19) do, against the same plain functions of lists.
-/
import Derived.Test.YtahncinfbhjkgaaLaw
namespace Go.Proofs.Ytahncinfbhjkgaa.Con
open Go Go.RowKit Go.Kt Go.Proofs.Ytahncinfbhjkgaa.Vc
set_option linter.unusedSimpArgs false
set_option linter.unusedVariables false

/-- append([]byte{}, y...), both steps -/
theorem clone_bytes {w : World} {F : Nat → Prop} {y : Sl} {l : List UInt8} (hy : SliceF rByte 1 w F y l) (hm : l.length ≤ 140737488355328) :
    ∃ x1 w1, (Instr.buildSlice 27 0 #[]).run Try.prog w = .ok (Sl.v x1) w1 ∧ Only [] w w1 ∧ ∃ x2 w2, (Builtin.append_ #[27, 27] 27 #[Sl.v x1, Sl.v y]).run Try.prog w1 = .ok (Sl.v x2) w2 ∧ OwnB w w2 x2 l ∧ Only [] w w2 := by
  obtain ⟨x1, w1, k1, k2, hO⟩ := build_nil (P := Try.prog) (t := 27) (e := 5) (i := Try.t5) (by kernel_rfl) (by kernel_rfl) rByte 1 w (fun k => F k ∧ k < w.heap.size)
  have hy1 : SliceF rByte 1 w1 (fun k => (F k ∧ k < w.heap.size) ∧ x1.a ≠ some ⟨k, 0, none⟩) y l := (SliceF.only rByte_ok (by decide) (hy.inHeap rByte_ok (by decide)) hO (by simp)).mono rByte_ok fun k hk => ⟨hk, fun ha => by have := (k2.blk ha).1; dsimp only at this; have := hk.2; omega⟩
  obtain ⟨s', w', g1, g2, gs, g3, g4, g5⟩ := app_own (P := Try.prog) (t := 27) (ty := 27) (i := Try.t5) (z := .int .u8 0) (bytes := 1) (by kernel_rfl) (by kernel_rfl) rfl rfl rfl rfl rByte_ok k2 hy1 hO.size (by simpa using hm) (by decide)
  exact ⟨x1, w1, k1, hO, s', w', g1, (by simpa using g2.bytes), hO.trans g3 fun g hg => .inr (g4 g hg).2.1⟩

def FoundR (l : List Seat) (id : Int) (k : Int) : Prop := (∃ n s, k = ((n : Nat) : Int) ∧ l[n]? = some s ∧ s.i = id) ∨ (k = -1 ∧ ∀ s, s ∈ l → s.i ≠ id)
section
variable {ty : TypeId} {w : World} {F : Nat → Prop} {b : Nat} {x : BookS}
theorem rfind_c (h : Bk ty w F b x) (id : Int) :
    Calls Try.prog 43 #[.pointer (some ⟨b, 0, none⟩), .int .i64 id] w fun e w' => ∃ k, e = .returned (.int .i64 k) ∧ FoundR x.l id k ∧ w' = w := by
  refine (pavaneref19_Book_Find_wp _ id (fun v w' => ∃ k, v = .int .i64 k ∧ FoundR x.l id k ∧ w' = w) w ?_).mono (by rintro e w' ⟨v, rfl, k, rfl, h⟩; exact ⟨k, rfl, h⟩)
  unfold pavaneref19_Book_Find_vc
  obtain ⟨s, h1, h2⟩ := h.seats
  have hl := h2.len
  have hl8 := h.ok.len
  refine ⟨fun nv i w' => ∃ n : Nat, i = (n : Int) ∧ n ≤ x.l.length ∧ nv = x.l.length - n ∧ (∀ m y, x.l[m]? = some y → m < n → y.i ≠ id) ∧ w = w', x.l.length, ⟨0, rfl, Nat.zero_le _, rfl, fun m y _ hm => by omega, rfl⟩, ?_⟩
  rintro nv _ _ ⟨n, rfl, hn, rfl, hno, rfl⟩
  refine ⟨s, Bk.c0' h1, fun hc => ?_, fun hc => ⟨-1, rfl, .inr ⟨rfl, fun y hy => ?_⟩, rfl⟩⟩
  · obtain ⟨ad, y, cs, g1, g2, g3, g4, g5, d, rfl, g6⟩ := h2.get (Int.natCast_nonneg n) (of_decide_eq_true hc)
    rw [Int.toNat_natCast] at g2
    have hlt := (List.getElem?_eq_some_iff.1 g2).1
    refine ⟨s, Bk.c0' h1, ad, g1, y.i, g5.at1 0 _ rfl, fun hc2 => ⟨n, rfl, .inl ⟨n, y, rfl, g2, by simpa using hc2⟩, rfl⟩, fun hc2 => ?_⟩
    rw [wr' (x := (n : Int) + 1) (by omega) (by omega)]
    refine ⟨x.l.length - (n + 1), by omega, n + 1, by omega, by omega, rfl, fun m z hz hm => ?_, rfl⟩
    by_cases hmn : m = n
    · subst hmn
      rw [g2] at hz
      injection hz with hz
      subst hz
      simpa using hc2
    · exact hno m z hz (by omega)
  · have hc : ¬ (n : Int) < s.n := of_decide_eq_false hc
    obtain ⟨m, hm⟩ := List.getElem?_of_mem hy
    have := (List.getElem?_eq_some_iff.1 hm).1
    exact hno m y hm (by omega)
theorem rask_c (h : Bk ty w F b x) (id seq : Int) :
    Calls Try.prog 35 #[.pointer (some ⟨b, 0, none⟩), .int .i64 id, .int .i64 seq] w fun e w' => ∃ s : Sl, e = .returned (.tuple #[.int .i64 (askS x.l id seq).1, s.v]) ∧ OwnB w w' s (askS x.l id seq).2 ∧ Only [] w w' := by
  refine (pavaneref19_Book_Ask_wp _ id seq (fun v w' => ∃ s : Sl, v = (.tuple #[.int .i64 (askS x.l id seq).1, s.v]) ∧ OwnB w w' s (askS x.l id seq).2 ∧ Only [] w w') w ?_).mono (by
    rintro e w' ⟨v, rfl, s, rfl, h⟩; exact ⟨s, rfl, h⟩)
  unfold pavaneref19_Book_Ask_vc
  refine (rfind_c h id).mono ?_
  rintro _ w1 ⟨k, rfl, g1, rfl⟩
  have nilB : ∀ {w' : World}, OwnB w1 w' Sl.nil [] := Own.nil _ _ _ _ _ _
  refine ⟨k, rfl, fun ht => ?_, fun ht => ?_⟩
  · have ht : k < 0 := of_decide_eq_true ht
    rcases g1 with ⟨n, _, rfl, _⟩ | ⟨_, g1⟩
    · omega
    · exact ⟨Sl.nil, by simp [askS, find_none g1], by simp only [askS, find_none g1]; exact nilB, Only.refl _ _⟩
  · have ht : ¬ k < 0 := of_decide_eq_false ht
    rcases g1 with ⟨n, y, rfl, e1, e2⟩ | ⟨rfl, _⟩
    case inr => omega
    obtain ⟨s, h1, h2⟩ := h.seats
    have hf := find_at h.ok.up e1 e2
    obtain ⟨n', y', ad, d, e0, e1', _, e3, e4, e5⟩ := Found.get (ty := ty) h2 (.inl ⟨rfl, n, y, rfl, e1, e2⟩ : Found x.l id n true)
    obtain rfl : n = n' := by omega
    rw [e1] at e1'
    injection e1' with e1'
    subst e1'
    refine ⟨s, Bk.c0' h1, ad, e3, y.l, e4.at1 1 _ rfl, fun hc => ?_, fun hc => ⟨s, Bk.c0' h1, ad, e3, y.l, e4.at1 1 _ rfl, fun hc2 => ?_, fun hc2 => ?_⟩⟩
    · have hc : seq < y.l ∨ seq < 1 := by simpa using hc
      have : askS x.l id seq = (3, []) := by simp only [askS, hf, if_pos hc]
      rw [this]
      exact ⟨Sl.nil, rfl, nilB, Only.refl _ _⟩
    · have hc : ¬ (seq < y.l ∨ seq < 1) := by simpa using hc
      have hc2 : seq = y.l := by simpa using hc2
      have : askS x.l id seq = (2, y.r) := by simp only [askS, hf, if_neg hc, if_pos hc2]
      rw [this]
      obtain ⟨x1, w2, k1, hO2, x2, w3, k2, k3, k4⟩ := clone_bytes e5.d e5.dl
      exact ⟨x1, w2, k1, s, Bk.c0' (hO2.blk h1 (by simp)), ad, e3, d, (e4.keep (hO2.block _ e4.lt (by simp))).at1 2 _ rfl, x2, w3, k2, x2, rfl, k3, k4⟩
    · have hc : ¬ (seq < y.l ∨ seq < 1) := by simpa using hc
      have hc2 : ¬ seq = y.l := by simpa using hc2
      have : askS x.l id seq = (1, []) := by simp only [askS, hf, if_neg hc, if_neg hc2]
      rw [this]
      exact ⟨Sl.nil, rfl, nilB, Only.refl _ _⟩
end

theorem ropen_c {w : World} {F : Nat → Prop} {b : Nat} {x : BookS} (h : Bk 64 w F b x) (now : Int) :
    Calls Try.prog 34 #[.pointer (some ⟨b, 0, none⟩), .int .i64 now] w fun e w' => e = .returned (.tuple #[.int .i64 (openN x now), .int .i64 (openE x now)]) ∧ Bk 64 w' (fun k => F k ∨ w.heap.size ≤ k) b (openS x now) ∧ OnlyP F w w' := by
  refine ret (pavaneref19_Book_Open_wp _ now (fun v w' => v = .tuple #[.int .i64 (openN x now), .int .i64 (openE x now)] ∧ Bk 64 w' (fun k => F k ∨ w.heap.size ≤ k) b (openS x now) ∧ OnlyP F w w') w ?_)
  unfold pavaneref19_Book_Open_vc
  have stay : openE x now ≠ 0 → Bk 64 w (fun k => F k ∨ w.heap.size ≤ k) b (openS x now) ∧ OnlyP F w w := fun hE => by
    simp only [openS, if_neg hE]
    exact ⟨h.mono fun k hk => .inl hk, OnlyP.refl _ _⟩
  refine ⟨fun hc => ?_, fun hc => ?_⟩
  · have hc : now < 0 ∨ now > 1099511627776 := by simpa using hc
    have hE : openE x now = 1 := by simp only [openE, if_pos hc]
    exact ⟨by simp [openN, hE], stay (by rw [hE]; decide)⟩
  · have hc : ¬ (now < 0 ∨ now > 1099511627776) := by simpa using hc
    have hok := openS_ok h.ok now
    have hE0 : openE x now = if x.l.length ≥ 8 ∨ x.n = 9223372036854775807 then 40 else 0 := by simp only [openE, if_neg hc]
    obtain ⟨s, h1, h2, h3⟩ := h.at_
    have hsl := h2.len
    have hn1 := h.ok.n1
    have hn0 := h.ok.n0
    have hcc : ((decide ((↑(Sl.n s) : Int) ≥ 8)) || (x.n == 9223372036854775807)) = decide (x.l.length ≥ 8 ∨ x.n = 9223372036854775807) := by
      rw [hsl, Bool.decide_or]
      congr 1
      exact decide_eq_decide.2 (by omega)
    refine ⟨s, Bk.c0' h1, x.n, fun _ => Bk.c1 h1, ?_⟩
    rw [hcc]
    refine ⟨fun ht => ?_, fun ht => ⟨s, Bk.c0' h1, x.n, Bk.c1 h1, fun w1 hO1 => ?_⟩⟩
    · have ht := of_decide_eq_true ht
      have hE : openE x now = 40 := by rw [hE0, if_pos ht]
      exact ⟨by simp [openN, hE], stay (by rw [hE]; decide)⟩
    · have ht := of_decide_eq_false ht
      have hE : openE x now = 0 := by rw [hE0, if_neg ht]
      simp only [openS, hE, if_true] at hok ⊢
      rw [wr' (x := now + 50) (by omega) (by omega)]
      have hb0 := h.lt
      have hown1 := (h2.inHeap rSeat_ok).keep rSeat_ok (w' := w1) fun k hk hlt => hO1.block k hlt (by simp)
      obtain ⟨y, w3, k1, k2, s', w4, k3, k4, ⟨gs, k5, k6⟩, k7⟩ := app_one (P := Try.prog) (t := 42) (ty := 42) (e := 49) (i := Try.t49) (bytes := 48) (G := fun _ => False) (v := .agg #[.int .i64 x.n, .int .i64 0, Sl.v Sl.nil, .int .i64 (now + 50)]) (x := newSeat x now)
        (by kernel_rfl) (by kernel_rfl) rfl rfl rfl rfl (by decide) (by decide) (by decide) rSeat_ok hown1 (Nat.zero_le _) rfl ⟨Sl.nil, rfl, ⟨by show _ ≤ x.n; omega, hn1⟩, (show InI 0 from ⟨by decide, by decide⟩), ⟨by show _ ≤ now + 50; omega, by show now + 50 ≤ _; omega⟩, SliceF.nil _ _ _ _, by simp [newSeat]⟩ (fun k hk => hk.elim) (by omega)
      have hbn : b ∉ gs := fun hm => (h3 b (k6 b hm).1).2 rfl
      have hb1 := hO1.blk h1 (by simp)
      have hb4 : Blk w4 b 64 [s.v, .int .i64 x.n] := k5.blk (k2.blk hb1 (by simp)) hbn
      have hs1 := hO1.size
      have hs3 := k2.size
      refine ⟨y, w3, k1, k2.same (by simp [addr_block]; omega), s', w4, k3, b, 0, _, _, rfl, hb4, by simp, fun w5 hO5 hb5 => ⟨x.n, Bk.c1 hb5, b, 1, _, _, rfl, hb5, by simp [splice], fun w6 hO6 hb6 => ⟨x.n + 1, ?_, ?_⟩⟩⟩
      all_goals rw [wr' (x := x.n + 1) (by omega) (by omega)] at *
      · exact Bk.c1 (s := s'.v) hb6
      · replace hb6 : Blk w6 b 64 [s'.v, .int .i64 (x.n + 1)] := hb6
        have hO56 : Only [b] w4 w6 := hO5.trans hO6 (by simp)
        rw [wr' (x := x.n + 1 - 1) (by omega) (by omega)]
        refine ⟨by rw [show x.n + 1 - 1 = x.n by omega]; simp [openN, hE], ?_, ?_⟩
        · refine (Bk.grown (w := w1) (F := F) (s := s) (s' := s') h.fb h3 (by omega) hok (k4.mono rSeat_ok fun k hk => hk.imp (fun h => h.1) id) k7 hO56 hb6).mono fun k hk => hk.imp id fun hk => by omega
        · refine ((hO1.p0 (F := F)).tr0 k2).trans ((k5.p (F := F) fun g hg => .inl (h3 g (k6 g hg).1).1).trans (hO56.p (F := F) fun g hg => .inl (by simp only [List.mem_singleton] at hg; subst hg; exact h.fb)) fun k hk => .inl hk) fun k hk => .inl hk

theorem rnote_c {w : World} {F G : Nat → Prop} {b : Nat} {x : BookS} (h : Bk 64 w F b x) {reply : Sl} {r : List UInt8} (hr : SliceF rByte 1 w G reply r) (hm : r.length ≤ 140737488355328) (id seq now : Int) (hseq : InI seq) (hid : InI id) :
    Calls Try.prog 36 #[.pointer (some ⟨b, 0, none⟩), .int .i64 id, .int .i64 seq, .int .i64 now, Sl.v reply] w fun e w' => e = .returned (.int .i64 (noteE x id seq now r)) ∧ Bk 64 w' (fun k => F k ∨ w.heap.size ≤ k) b (noteS x id seq now r) ∧ OnlyP F w w' := by
  refine ret (pavaneref19_Book_Note_wp _ id seq now reply (fun v w' => v = .int .i64 (noteE x id seq now r) ∧ Bk 64 w' (fun k => F k ∨ w.heap.size ≤ k) b (noteS x id seq now r) ∧ OnlyP F w w') w ?_)
  unfold pavaneref19_Book_Note_vc
  refine (rask_c h id seq).mono ?_
  rintro _ w1 ⟨sr, rfl, _, hO1⟩
  have stay : noteE x id seq now r ≠ 0 → Bk 64 w1 (fun k => F k ∨ w.heap.size ≤ k) b (noteS x id seq now r) ∧ OnlyP F w w1 := fun hE => by
    simp only [noteS, if_neg hE]
    exact ⟨(h.only0 hO1).mono fun k hk => .inl hk, hO1.p0⟩
  have hrl := hr.len
  have hcc : (((decide (now < 0)) || (decide (now > 1099511627776))) || ((askS x.l id seq).1 != 1)) = decide (now < 0 ∨ now > 1099511627776 ∨ (askS x.l id seq).1 ≠ 1) := by
    simp only [Bool.decide_or, Bool.or_assoc]
    congr 2
    rw [bne, Bool.beq_eq_decide_eq, decide_not]
  refine ⟨_, sr, rfl, ?_⟩
  rw [hcc]
  refine ⟨fun ht => ?_, fun ht => ⟨fun hc => ?_, fun hc => ?_⟩⟩
  · have ht := of_decide_eq_true ht
    have hE : noteE x id seq now r = 1 := by simp only [noteE, if_pos ht]
    exact ⟨by rw [hE], stay (by rw [hE]; decide)⟩
  · have ht := of_decide_eq_false ht
    have hc : (reply.n : Int) > 65536 := of_decide_eq_true hc
    have hE : noteE x id seq now r = 2 := by simp only [noteE, if_neg ht]; rw [if_pos (by omega)]
    exact ⟨by rw [hE], stay (by rw [hE]; decide)⟩
  · have ht := of_decide_eq_false ht
    have hc : ¬ (reply.n : Int) > 65536 := of_decide_eq_false hc
    have hE : noteE x id seq now r = 0 := by simp only [noteE, if_neg ht]; rw [if_neg (by omega)]
    have hok := noteS_ok h.ok (id := id) (seq := seq) (now := now) r
    simp only [noteS, hE, if_true] at hok ⊢
    obtain ⟨z1, z2, z3, z4⟩ := noteE_zero hE
    obtain ⟨y0, f1, f2, f3⟩ := ask_one z3
    have h1 := h.only0 hO1
    refine (rfind_c h1 id).mono ?_
    rintro _ w2 ⟨k, rfl, g1, rfl⟩
    obtain ⟨s, q1, q2, q3⟩ := h1.at_
    refine ⟨k, rfl, s, Bk.c0' q1, fun w3 hO3 => ?_⟩
    have hO03 := hO1.tr0 hO3
    obtain ⟨x1, w4, k1, hO4, s', w5, k2, k3, k4⟩ := clone_bytes (SliceF.only rByte_ok (by decide) hr hO03 (by simp)) hm
    have hb1 := h1.lt
    have hs1 := hO1.size
    have hs3 := hO3.size
    have hs4 := hO4.size
    have hO25 := hO3.tr0 k4
    rcases g1 with ⟨n, y, rfl, e1, e2⟩ | ⟨_, g1⟩
    case inr => rw [find_none g1] at f1; cases f1
    have hown5 := q2.keep rSeat_ok (w' := w5) fun k hk hlt => hO25.block k hlt (by simp)
    rw [wr' (x := now + 50) (by omega) (by omega)]
    have hst := (hown5.inHeap rSeat_ok).mono (G := fun k => (F k ∧ k ≠ b) ∨ w3.heap.size ≤ k) rSeat_ok (fun k hk => .inl hk.1)
    obtain ⟨g, cells, p1, p2, p3, p4, p5⟩ := Own.store (G := fun k => w3.heap.size ≤ k) (x := ⟨id, seq, r, now + 50⟩) (n := n) (vs := [.int .i64 id, .int .i64 seq, Sl.v s', .int .i64 (now + 50)]) rSeat_ok hst (List.getElem?_eq_some_iff.1 e1).1 rfl
      ⟨s', rfl, hid, hseq, ⟨by show _ ≤ now + 50; omega, by show now + 50 ≤ _; omega⟩, (k3.slice rByte_ok).mono rByte_ok fun k hk => hk.elim False.elim fun h => h.1, hm⟩
      (fun k hk hlt => ⟨.inr (by omega), fun ha => by have h' : k < w2.heap.size := (q2.blk ha).2; omega⟩) (by decide)
    refine ⟨x1, w4, k1, hO4.same (by simp [addr_block]; omega), s', w5, k2, ?_, _, p2, g, n * 4, cells, _, rfl, p3, p4, fun w6 hO6 hb6 => ?_⟩
    · intro z hz
      simp only [addr_block, List.mem_singleton] at hz
      subst hz
      rw [k4.block z (by omega) (by simp), hO4.block z (by omega) (by simp)]
    obtain ⟨r1, r2⟩ := q3 g p1
    have p6 := p5 w6 hO6 hb6
    rw [set_at (t := ⟨id, seq, r, now + 50⟩) h.ok.up e1 (by rw [e2])] at p6
    refine ⟨trivial, ⟨hok, .inl h.fb, s, (hO6.blk ((hO25.blk q1 (by simp))) (by simp; omega)), p6.mono rSeat_ok fun k hk => ?_, fun g' hg' => ⟨.inl (q3 g' hg').1, (q3 g' hg').2⟩⟩, ((hO1.tr0 hO25).p0 (F := F)).trans (hO6.p (F := F) fun g' hg' => .inl (by simp only [List.mem_singleton] at hg'; subst hg'; exact r1)) fun k hk => .inl hk⟩
    rcases hk with hk | hk
    · exact ⟨.inl hk.1, hk.2⟩
    · exact ⟨.inr (by omega), by omega⟩
end Go.Proofs.Ytahncinfbhjkgaa.Con
