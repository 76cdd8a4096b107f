/-
  Own work: what the functions of the session package do: Expire, copies, List, New, Next, Restore.
-/
import Derived.Test.YtahncinfbhjkgaaCon3
namespace Go.Proofs.Ytahncinfbhjkgaa.Con
open Go Go.RowKit Go.Kt Go.Proofs.Ytahncinfbhjkgaa.Vc
set_option linter.unusedSimpArgs false
set_option linter.unusedVariables false

/-! ## Expire -/
def late (now : Int) (s : Seat) : Bool := decide (s.u < now)
def goneS (x : BookS) (now : Int) : List Int := (x.l.filter (late now)).map (·.i)
def expireS (x : BookS) (now : Int) : BookS := ⟨x.l.filter fun s => !late now s, x.n⟩
theorem expireS_ok {x : BookS} (hx : x.Ok) (now : Int) : (expireS x now).Ok :=
  ⟨hx.n0, hx.n1, Nat.le_trans (List.length_filter_le _ _) hx.len, hx.up.filter _, fun s hs => hx.each s (List.mem_filter.1 hs).1⟩
abbrev OwnI (B : Nat) (w' : World) (s : Sl) (l : List Int) : Prop := Own rInt 1 3 B w' (fun _ => False) s l
def GoneInv (B : Nat) (now : Int) (b1 b2 : Nat) (pre : List Seat) (w : World) : Prop :=
  Blk w b1 3 [.int .i64 now] ∧ ∃ v : Sl, Blk w b2 34 [Sl.v v] ∧ OwnI B w v ((pre.filter (late now)).map (·.i)) ∧ ∀ g, v.a = some ⟨g, 0, none⟩ → g ≠ b1 ∧ g ≠ b2

theorem expireClosure (B : Nat) (now : Int) {b1 b2 : Nat} (h1 : B ≤ b1) (h2 : B ≤ b2) (h12 : b1 ≠ b2) : Closure 32 [.pointer (some ⟨b1, 0, none⟩), .pointer (some ⟨b2, 0, none⟩)] (late now) (fun k => B ≤ k) (GoneInv B now b1 b2) where
  en args w := rfl
  keep := by
    rintro pre w w' ⟨g1, v, g2, g3, g4⟩ hk hs
    refine ⟨(hk _ h1 g1.lt).trans g1, v, (hk _ h2 g2.lt).trans g2, g3.keep rInt_ok (fun k hF hlt => ?_), g4⟩
    rcases hF with hF | hF
    · exact hF.elim
    · exact hk k hF.1 hlt
  call := by
    intro pre x d w1 w4 hI hO hxi hlen
    refine (session_Book_Expire_1_wp x.i x.l d x.u ⟨b1, 0, none⟩ ⟨b2, 0, none⟩ (fun v w5 => v = .bool (late now x) ∧ OnlyP (fun k => B ≤ k ∧ k < w1.heap.size) w4 w5 ∧ GoneInv B now b1 b2 (pre ++ [x]) w5) w4 ?_).mono (by
      rintro e w' ⟨v, rfl, rfl, h⟩; exact ⟨rfl, h⟩)
    unfold session_Book_Expire_1_vc
    obtain ⟨g1, v, g2, g3, g4⟩ := hI
    intro b w5 hb1 hb2 hO5
    have hO15 := hO.tr0 hO5
    have hs4 := hO.size
    have k1 := hO15.blk g1 (by simp)
    have k2 := hO15.blk g2 (by simp)
    have k3 : OwnI B w5 v ((pre.filter (late now)).map (·.i)) := g3.keep rInt_ok fun k hk hlt => hO15.block k hlt (by simp)
    have hb1l := g1.lt
    have hb2l := g2.lt
    refine ⟨fun w6 => OnlyP (fun k => B ≤ k ∧ k < w1.heap.size) w4 w6 ∧ GoneInv B now b1 b2 (pre ++ [x]) w6, ?_, now, k1.cellsAt 0 _ rfl, fun hc => ?_, fun hc => ?_⟩
    · rintro w6 ⟨q1, q2⟩
      exact ⟨now, q2.1.cellsAt 0 _ rfl, rfl, q1, q2⟩
    · have hl : late now x = true := hc
      obtain ⟨y, w6, m1, m2, s', w7, m3, m4, ⟨gs, m5, m6⟩, m7⟩ := app_one (P := Try.prog) (t := 34) (ty := 34) (e := 3) (i := Try.t3) (bytes := 8) (G := fun _ => False) (v := .int .i64 x.i) (x := x.i)
        (by kernel_rfl) (by kernel_rfl) rfl rfl rfl rfl (by decide) (by decide) (by decide) rInt_ok k3 (by have := k1.lt; omega) rfl ⟨rfl, hxi⟩ (fun k hk => hk.elim) (by
          rw [List.length_map]
          have := List.length_filter_le (late now) pre
          omega)
      refine ⟨v, k2.cellsAt 0 _ rfl, y, w6, m1, m2.same (by simp; omega), s', w7, m3, ?_, b2, 0, [Sl.v v], 34, rfl, ?_, by simp, by omega, fun w8 hO8 hb8 => ?_⟩
      · have hs6 := m2.size
        exact m5.same (by simp only [List.mem_singleton]; rintro _ rfl; exact ⟨by omega, fun hm => by have := (g3.blk (m6 _ hm).1).2; dsimp only at this; omega⟩)
      · exact m5.blk (m2.blk k2 (by simp)) fun hm => (g4 _ (m6 _ hm).1).2 rfl
      · have hs5 := hO15.size
        have hnew : ∀ g, s'.a = some ⟨g, 0, none⟩ → g ≠ b1 ∧ g ≠ b2 := fun g hg => by
          rcases m7 with h | ⟨g', h, h'⟩
          · rw [h] at hg; exact g4 g hg
          · rw [h] at hg
            injection hg with hg
            injection hg with hg
            subst hg
            omega
        refine ⟨?_, ?_, s', hb8, ?_, hnew⟩
        · refine ((hO5.p0.tr0 m2).trans (m5.p (F := fun k => B ≤ k ∧ k < w1.heap.size) fun g hg => .inl ?_) fun k hk => .inl hk).trans (hO8.p (F := fun k => B ≤ k ∧ k < w1.heap.size) fun g hg => .inl ?_) fun k hk => .inl hk
          · have := (g3.blk (m6 g hg).1).2
            exact ⟨(m6 g hg).2.1, this⟩
          · simp only [List.mem_singleton] at hg
            subst hg
            exact ⟨h2, hb2l⟩
        · exact hO8.blk (m5.blk (m2.blk k1 (by simp)) fun hm => (g4 _ (m6 _ hm).1).1 rfl) (by simpa using h12)
        · have : ((pre ++ [x]).filter (late now)).map (·.i) = (pre.filter (late now)).map (·.i) ++ [x.i] := by
            rw [List.filter_append, List.map_append]
            simp [hl]
          rw [this]
          have m4' := m4.inHeap rInt_ok
          rcases m4 with ⟨h, h'⟩ | ⟨g, css, tail, a1, a2, a4, a5, a6, a7, a9, a8⟩
          · simp at h'
          · refine .inr ⟨g, css, tail, a1, a2, hO8.blk a4 (by simpa using (hnew g a1).2), a5, a6, a7, a9, a8.imp fun _ _ h => h⟩
    · have hl : late now x = false := hc
      refine ⟨hO5.p0, k1, v, k2, ?_, g4⟩
      have : ((pre ++ [x]).filter (late now)).map (·.i) = (pre.filter (late now)).map (·.i) := by
        rw [List.filter_append]
        simp [hl]
      rw [this]
      exact k3

theorem expire_c {w : World} {F : Nat → Prop} {b : Nat} {x : BookS} (h : Bk 47 w F b x) (now : Int) :
    Calls Try.prog 13 #[.pointer (some ⟨b, 0, none⟩), .int .i64 now] w fun e w' => ∃ s, e = .returned (Sl.v s) ∧ OwnI w.heap.size w' s (goneS x now) ∧ Bk 47 w' (fun k => F k ∨ w.heap.size ≤ k) b (expireS x now) ∧ OnlyP F w w' := by
  refine (session_Book_Expire_wp _ now (fun v w' => ∃ s, v = Sl.v s ∧ OwnI w.heap.size w' s (goneS x now) ∧ Bk 47 w' (fun k => F k ∨ w.heap.size ≤ k) b (expireS x now) ∧ OnlyP F w w') w ?_).mono (by
    rintro e w' ⟨v, rfl, s, rfl, h⟩; exact ⟨s, rfl, h⟩)
  unfold session_Book_Expire_vc
  intro b1 b2 w1 hb1 hb1' hb2 hb2' hO1
  have hbl := h.lt
  obtain ⟨s, h1, h2, h3⟩ := (h.inHeap.only0 hO1).at_
  refine ⟨s, Bk.c0 h1, fun hB1 hB2 => ?_⟩
  have h12 : b1 ≠ b2 := fun e => by
    subst e
    have := hB1.symm.trans hB2
    simp at this
  have hl8 := h.ok.len
  refine (delete_c (F := fun k => (F k ∧ k < w.heap.size) ∧ k ≠ b) (D := fun k => w.heap.size ≤ k) h2 (by omega) (fun k hk => ?_) (fun k _ => by omega) (expireClosure w.heap.size now hb1 hb2 h12) ⟨hB1, Sl.nil, hB2, Own.nil _ _ _ _ _ _, fun g hg => by cases hg⟩).mono ?_
  · rcases hk with hk | hk
    · have := hk.1.2; omega
    · have := (h3 k hk).1.2; omega
  rintro _ w2 ⟨s', rfl, k1, k2, k3, k4, v, k5, k6, k7⟩
  have hb2b : Blk w2 b 47 [s.v, .int .i64 x.n] := k3.blk h1 (by
    rintro (hk | hk)
    · omega
    · exact (h3 b hk).2 rfl)
  have hs1 := hO1.size
  have hs2 := k3.size
  refine ⟨s', rfl, k3.same' hB1 k4, v, k5, b, 0, _, _, rfl, hb2b, by simp, by omega, by omega, fun w3 hO3 hb3 => ?_⟩
  refine ⟨v, rfl, ?_, ⟨expireS_ok h.ok now, .inl h.fb, s', hb3, ?_, fun g hg => ?_⟩, ?_⟩
  · refine k6.keep rInt_ok fun k hk hlt => hO3.block k hlt ?_
    simp only [List.mem_singleton]
    rcases hk with hk | hk
    · exact hk.elim
    · omega
  · refine (k2.keep rSeat_ok fun k hk hlt => hO3.block k hlt ?_).mono rSeat_ok fun k hk => ⟨.inl hk.1.1, hk.2⟩
    simp only [List.mem_singleton]
    rcases hk with hk | hk
    · exact hk.2
    · rw [k1] at hk; exact (h3 k hk.2).2
  · rw [k1] at hg
    exact ⟨.inl (h3 g hg).1.1, (h3 g hg).2⟩
  · refine (hO1.trP (F := fun k => F k ∨ w.heap.size ≤ k) (k3.mono fun k _ hk => ?_)).trans (hO3.p (F := F) fun g hg => .inl (by simp only [List.mem_singleton] at hg; subst hg; exact h.fb)) (fun k hk => .inl (.inl hk)) |>.mono fun k hlt hk => hk.elim id fun hk => by omega
    rcases hk with hk | hk
    · exact .inr hk
    · exact .inl (h3 k hk).1.1

/-! ## copies -/
theorem sclone_c {w : World} {F : Nat → Prop} {s : Sl} {l : List Seat} (h : Seats w F s l) (hm : l.length * 48 ≤ 140737488355328) :
    Calls Try.prog 42 #[Sl.v s] w fun e w' => ∃ s' : Sl, e = .returned s'.v ∧ Own rSeat 4 49 w.heap.size w' F s' l ∧ Only [] w w' := by
  refine (slices_Clone_api_Seat_wp s (fun v w' => ∃ s' : Sl, v = s'.v ∧ Own rSeat 4 49 w.heap.size w' F s' l ∧ Only [] w w') w ?_).mono (by
    rintro e w' ⟨v, rfl, s', rfl, h⟩; exact ⟨s', rfl, h⟩)
  unfold slices_Clone_api_Seat_vc
  refine ⟨fun hc => ?_, fun hc => ?_⟩
  · have := nil_of h (by simpa using hc)
    subst this
    exact ⟨Sl.nil, rfl, Own.nil _ _ _ _ _ _, Only.refl _ _⟩
  · obtain ⟨x1, w1, k1, x2, w2, k2, k3, k4, k5⟩ := clone_own (P := Try.prog) (t := 42) (ty := 42) (e := 49) (i := Try.t49) (bytes := 48) (by kernel_rfl) (by kernel_rfl) rfl rfl rfl rfl (by decide) rSeat_ok h hm (by decide)
    exact ⟨x1, w1, k1, x2, w2, k2, x2, rfl, k3, k4⟩
end Go.Proofs.Ytahncinfbhjkgaa.Con
