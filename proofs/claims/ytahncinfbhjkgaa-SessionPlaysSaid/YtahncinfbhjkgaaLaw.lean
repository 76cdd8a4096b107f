/-
  Own work: one act of a law on sessions, and the small case.
-/
import Derived.Test.YtahncinfbhjkgaaCon5
import Derived.Test.YtahncinfbhjkgaaLaw0
namespace Go.Proofs.Ytahncinfbhjkgaa.Con
open Go Go.RowKit Go.Kt Go.Proofs.Ytahncinfbhjkgaa.Vc
set_option linter.unusedSimpArgs false
set_option linter.unusedVariables false

/-- an act: Do, Id, Seq, Now, B -/
abbrev Act' := Int × Int × Int × Int × List UInt8 × Unit
abbrev rAct : Rp Act' := rPair rInt (rPair rInt (rPair rInt (rPair rInt (rPair (rSl rByte 1 1) rUnit))))
theorem rSl_ok {α : Type} {r : Rp α} {size bytes : Nat} (hr : r.Ok) (h0 : 0 < size) : (rSl r size bytes).Ok where
  keep := by
    rintro w w' F x cs ⟨s, h1, h2, h3⟩ hk
    exact ⟨s, h1, h2.keep hr h0 hk, h3⟩
  inHeap := by
    rintro w F x cs ⟨s, h1, h2, h3⟩
    exact ⟨s, h1, h2.inHeap hr h0, h3⟩
  mono := by
    rintro w F G x cs ⟨s, h1, h2, h3⟩ hk
    exact ⟨s, h1, h2.mono hr hk, h3⟩
  one := by
    rintro w F x cs ⟨s, rfl, _⟩ v hv
    simp only [List.mem_singleton] at hv
    subst hv
    rfl
theorem rAct_ok : rAct.Ok := rPair_ok rInt_ok (rPair_ok rInt_ok (rPair_ok rInt_ok (rPair_ok rInt_ok (rPair_ok (rSl_ok rByte_ok (by decide)) rUnit_ok))))
theorem rAct_get {w : World} {F : Nat → Prop} {x : Act'} {cs : List Value} (h : rAct w F x cs) : ∃ d : Sl, cs = [.int .i64 x.1, .int .i64 x.2.1, .int .i64 x.2.2.1, .int .i64 x.2.2.2.1, Sl.v d] ∧ InI x.1 ∧ InI x.2.1 ∧ InI x.2.2.1 ∧ InI x.2.2.2.1 ∧ SliceF rByte 1 w F d x.2.2.2.2.1 ∧ x.2.2.2.2.1.length ≤ 140737488355327 := by
  obtain ⟨_, _, rfl, ⟨rfl, h1⟩, _, _, rfl, ⟨rfl, h2⟩, _, _, rfl, ⟨rfl, h3⟩, _, _, rfl, ⟨rfl, h4⟩, _, _, rfl, ⟨d, rfl, h5, h6⟩, rfl⟩ := h
  simp only [Nat.mul_one] at h6
  exact ⟨d, rfl, h1, h2, h3, h4, h5, Nat.le_trans h6 (by decide)⟩

def doF (x : BookS) (a : Act') : (Int × Int × List UInt8 × List Int) × BookS :=
  if a.1 = 0 then ((openN x a.2.2.2.1, openE x a.2.2.2.1, [], []), openS x a.2.2.2.1)
  else if a.1 = 1 then (((askS x.l a.2.1 a.2.2.1).1, 0, (askS x.l a.2.1 a.2.2.1).2, []), x)
  else if a.1 = 2 then ((0, noteE x a.2.1 a.2.2.1 a.2.2.2.1 a.2.2.2.2.1, [], []), noteS x a.2.1 a.2.2.1 a.2.2.2.1 a.2.2.2.2.1)
  else if a.1 = 3 then ((0, 0, [], goneS x a.2.2.2.1), expireS x a.2.2.2.1)
  else ((0, 0, [], []), x)
theorem doF_ok {x : BookS} (hx : x.Ok) (a : Act') : (doF x a).2.Ok := by
  simp only [doF]
  split
  · exact openS_ok hx _
  · split
    · exact hx
    · split
      · exact noteS_ok hx _
      · split
        · exact expireS_ok hx _
        · exact hx

theorem do2_c {w : World} {F G : Nat → Prop} {b : Nat} {x : BookS} (h : Bk 47 w F b x) {a : Act'} {d : Sl} (hd : SliceF rByte 1 w G d a.2.2.2.2.1) (hl : a.2.2.2.2.1.length ≤ 140737488355327) (hG : ∀ k, G k → k < w.heap.size → ¬ F k) (h1 : InI a.2.1) (h2 : InI a.2.2.1) :
    Calls Try.prog 11 #[.pointer (some ⟨b, 0, none⟩), .agg #[.int .i64 a.1, .int .i64 a.2.1, .int .i64 a.2.2.1, .int .i64 a.2.2.2.1, Sl.v d]] w fun e w' =>
      ∃ r g : Sl, e = .returned (.tuple #[.int .i64 (doF x a).1.1, .int .i64 (doF x a).1.2.1, Sl.v r, Sl.v g]) ∧ OwnB w w' r (doF x a).1.2.2.1 ∧ OwnI w.heap.size w' g (doF x a).1.2.2.2 ∧ Bk 47 w' (fun k => F k ∨ w.heap.size ≤ k) b (doF x a).2 ∧ OnlyP F w w' ∧ ((a.1 = 1 ∧ Bk 47 w' F b (doF x a).2) ∨ r = Sl.nil) := by
  refine (pavanelaw19_do_wp _ _ _ _ _ d (fun v w' => ∃ r g : Sl, v = .tuple #[.int .i64 (doF x a).1.1, .int .i64 (doF x a).1.2.1, Sl.v r, Sl.v g] ∧ OwnB w w' r (doF x a).1.2.2.1 ∧ OwnI w.heap.size w' g (doF x a).1.2.2.2 ∧ Bk 47 w' (fun k => F k ∨ w.heap.size ≤ k) b (doF x a).2 ∧ OnlyP F w w' ∧ ((a.1 = 1 ∧ Bk 47 w' F b (doF x a).2) ∨ r = Sl.nil)) w ?_).mono (by
    rintro e w' ⟨v, rfl, r, g, rfl, h⟩; exact ⟨r, g, rfl, h⟩)
  unfold pavanelaw19_do_vc
  have nB : ∀ {w' : World}, OwnB w w' Sl.nil [] := Own.nil _ _ _ _ _ _
  have nI : ∀ {w' : World}, OwnI w.heap.size w' Sl.nil [] := Own.nil _ _ _ _ _ _
  have hbl := h.lt
  refine ⟨fun hc b1 w1 hb1 hb2 hO1 => ?_, fun hc => ⟨fun hc2 b1 w1 hb1 hb2 hO1 => ?_, fun hc2 => ⟨fun hc3 b1 w1 hb1 hb2 hO1 => ?_, fun hc3 => ⟨fun hc4 b1 w1 hb1 hb2 hO1 => ?_, fun hc4 b1 w1 hb1 hb2 hO1 => ?_⟩⟩⟩⟩
  all_goals have hs1 := hO1.size
  · have hc : a.1 = 0 := by simpa using hc
    have hF : doF x a = ((openN x a.2.2.2.1, openE x a.2.2.2.1, [], []), openS x a.2.2.2.1) := by simp only [doF, if_pos hc]
    rw [hF]
    refine (open_c (h.inHeap.only0 hO1) _).mono ?_
    rintro _ w2 ⟨rfl, k1, k2⟩
    refine ⟨_, _, rfl, k2.same (by simp; omega), Sl.nil, Sl.nil, rfl, nB, nI, k1.mono fun k hk => hk.imp (fun h => h.1) fun h => by omega, hO1.trP (k2.mono fun k _ hk => hk.1), .inr rfl⟩
  · have hc : ¬ a.1 = 0 := by simpa using hc
    have hc2 : a.1 = 1 := by simpa using hc2
    have hF : doF x a = (((askS x.l a.2.1 a.2.2.1).1, 0, (askS x.l a.2.1 a.2.2.1).2, []), x) := by simp only [doF, if_neg hc, if_pos hc2]
    rw [hF]
    refine (ask_c (h.only0 hO1) _ _).mono ?_
    rintro _ w2 ⟨s, rfl, k1, k2⟩
    exact ⟨_, s, rfl, k2.same (by simp; omega), s, Sl.nil, rfl, k1.low hs1, nI, (h.only0 (hO1.tr0 k2)).mono fun k hk => .inl hk, (hO1.tr0 k2).p0, .inl ⟨hc2, h.only0 (hO1.tr0 k2)⟩⟩
  · have hc : ¬ a.1 = 0 := by simpa using hc
    have hc2 : ¬ a.1 = 1 := by simpa using hc2
    have hc3 : a.1 = 2 := by simpa using hc3
    have hF : doF x a = ((0, noteE x a.2.1 a.2.2.1 a.2.2.2.1 a.2.2.2.2.1, [], []), noteS x a.2.1 a.2.2.1 a.2.2.2.1 a.2.2.2.2.1) := by simp only [doF, if_neg hc, if_neg hc2, if_pos hc3]
    rw [hF]
    have hdH := hd.inHeap rByte_ok (by decide)
    refine (lent_c (SliceF.only rByte_ok (by decide) hdH hO1 (by simp)) hl).mono ?_
    rintro _ w2 ⟨s, g, rfl, hg, hL, hO2⟩
    have hs2 := hO2.size
    have hO02 := hO1.tr0 hO2
    have hgl := hL.blk.lt
    refine ⟨s, rfl, hO2.same (by simp; omega), (note_c (h.inHeap.only0 hO02) hL.slice (by omega) _ _ _ h2 h1).mono ?_⟩
    rintro _ w3 ⟨rfl, k1, k2⟩
    have hs3 := k2.size
    have hL3 : LentAt w3 s g a.2.2.2.2.1 := ⟨hL.sl, k2.blk hL.blk (by omega), hL.len⟩
    have hd3 := SliceF.onlyP rByte_ok (by decide) (SliceF.only rByte_ok (by decide) hdH hO02 (by simp)) k2 (fun k hk _ hf => hG k hk.1 hk.2 hf.1)
    refine ⟨_, rfl, k2.same (by simp; omega), (kept_c hL3 hd3).mono ?_⟩
    rintro _ w4 ⟨rfl, hO4⟩
    have hs4 := hO4.size
    refine ⟨_, rfl, hO4.same (by simp; omega), ?_⟩
    obtain ⟨y, w5, m1, m2, m3, m4, m5, m6⟩ := build_own (P := Try.prog) (t := 61) (e := 27) (i := Try.t27) (z := .slice none 0 0) (w := w4) (F := fun _ => False) (vs := [Sl.v s]) (parts := #[(0, Sl.v s)]) (len := 1) (xs := [s]) (r := rSlRaw) (size := 1) (by kernel_rfl) (by kernel_rfl) rfl rfl (by decide) rfl rfl (by decide) (by decide) rSlRaw_ok ⟨⟨rfl, rfl⟩, trivial⟩
    have hs5 := m3.size
    have hL5 : LentAt w5 s g a.2.2.2.2.1 := ⟨hL.sl, m3.blk (hO4.blk hL3.blk (by simp)) (by simp), hL.len⟩
    have hsb : s.blk = g := by rw [hL.sl]; rfl
    refine ⟨y, w5, m1, m3.same (by simp; omega), (owned_c (F := fun k => w4.heap.size ≤ k) ((m2.slice rSlRaw_ok).mono rSlRaw_ok fun k hk => hk.elim False.elim fun h => h.1) hL5.room (fun k hk => by rw [hsb]; omega)).mono ?_⟩
    rintro _ w6 ⟨t, rfl, hO6⟩
    rw [hsb] at hO6
    refine ⟨_, rfl, hO6.same (by simp; omega), fun h => (by cases h), fun _ => ⟨Sl.nil, Sl.nil, rfl, nB, nI, ?_, ?_, .inr rfl⟩⟩
    · refine ((k1.only0 (hO4.tr0 m3)).only hO6 fun k hk hlt => ?_).mono fun k hk => hk.imp (fun h => h.1) fun h => by omega
      simp only [List.mem_singleton]
      rintro rfl
      rcases hk with hk | hk <;> omega
    · exact ((hO02.trP (F := fun k => F k ∨ w.heap.size ≤ k) (k2.mono fun k _ hk => .inl hk.1)).tr0 (hO4.tr0 m3)).trans (hO6.p (F := fun k => F k ∨ w.heap.size ≤ k) fun k hk => .inl (by simp only [List.mem_singleton] at hk; subst hk; exact .inr (by omega))) (fun k hk => .inl hk) |>.mono fun k hlt hk => hk.elim id fun hk => by omega
  · have hc : ¬ a.1 = 0 := by simpa using hc
    have hc2 : ¬ a.1 = 1 := by simpa using hc2
    have hc3 : ¬ a.1 = 2 := by simpa using hc3
    have hc4 : a.1 = 3 := by simpa using hc4
    have hF : doF x a = ((0, 0, [], goneS x a.2.2.2.1), expireS x a.2.2.2.1) := by simp only [doF, if_neg hc, if_neg hc2, if_neg hc3, if_pos hc4]
    rw [hF]
    refine (expire_c (h.inHeap.only0 hO1) _).mono ?_
    rintro _ w2 ⟨s, rfl, k0, k1, k2⟩
    exact ⟨s, rfl, k2.same (by simp; omega), Sl.nil, s, rfl, nB, k0.low hs1, k1.mono fun k hk => hk.imp (fun h => h.1) fun h => by omega, hO1.trP (k2.mono fun k _ hk => hk.1), .inr rfl⟩
  · have hc : ¬ a.1 = 0 := by simpa using hc
    have hc2 : ¬ a.1 = 1 := by simpa using hc2
    have hc3 : ¬ a.1 = 2 := by simpa using hc3
    have hc4 : ¬ a.1 = 3 := by simpa using hc4
    have hF : doF x a = ((0, 0, [], []), x) := by simp only [doF, if_neg hc, if_neg hc2, if_neg hc3, if_neg hc4]
    rw [hF]
    exact ⟨Sl.nil, Sl.nil, rfl, nB, nI, (h.only0 hO1).mono fun k hk => .inl hk, hO1.p0, .inr rfl⟩

theorem do_c {w : World} {F G : Nat → Prop} {b : Nat} {x : BookS} (h : Bk 47 w F b x) {a : Act'} {d : Sl} (hd : SliceF rByte 1 w G d a.2.2.2.2.1) (hl : a.2.2.2.2.1.length ≤ 140737488355327) (hG : ∀ k, G k → k < w.heap.size → ¬ F k) (h1 : InI a.2.1) (h2 : InI a.2.2.1) :
    Calls Try.prog 11 #[.pointer (some ⟨b, 0, none⟩), .agg #[.int .i64 a.1, .int .i64 a.2.1, .int .i64 a.2.2.1, .int .i64 a.2.2.2.1, Sl.v d]] w fun e w' =>
      ∃ r g : Sl, e = .returned (.tuple #[.int .i64 (doF x a).1.1, .int .i64 (doF x a).1.2.1, Sl.v r, Sl.v g]) ∧ OwnB w w' r (doF x a).1.2.2.1 ∧ OwnI w.heap.size w' g (doF x a).1.2.2.2 ∧ Bk 47 w' (fun k => F k ∨ w.heap.size ≤ k) b (doF x a).2 ∧ OnlyP F w w' :=
  (do2_c h hd hl hG h1 h2).mono (by
    rintro e w' ⟨r, g, k0, k1, k2, k3, k4, _⟩
    exact ⟨r, g, k0, k1, k2, k3, k4⟩)

theorem small_c (w : World) : Calls Try.prog 8 #[] w fun e w' => e = .returned (.bool true) ∧ Only [] w w' := by
  refine ret (pavanelaw19_small_wp (fun v w' => v = .bool true ∧ Only [] w w') w ?_)
  unfold pavanelaw19_small_vc
  refine (new_c w).mono ?_
  rintro _ w1 ⟨b, rfl, h1, hO1⟩
  refine ⟨_, rfl, fun h => (by cases h), fun _ => ?_⟩
  have hs1 := hO1.size
  refine (open_c h1 5).mono ?_
  rintro _ w2 ⟨rfl, h2, hP2⟩
  have hs2 := hP2.size
  obtain ⟨y, w3, m1, m2, m3, m4, m5, m6⟩ := build_own (P := Try.prog) (t := 27) (e := 5) (i := Try.t5) (z := .int .u8 0) (w := w2) (F := fun _ => False) (vs := [.int .u8 97]) (parts := #[(0, .int .u8 97)]) (len := 1) (xs := [97]) (r := rByte) (size := 1) (by kernel_rfl) (by kernel_rfl) rfl rfl (by decide) rfl rfl (by decide) (by decide) rByte_ok ⟨⟨rfl, rfl⟩, trivial⟩
  have hs3 := m3.size
  refine ⟨_, _, rfl, y, w3, m1, (note_c (h2.inHeap.only0 m3) (m2.slice rByte_ok) (by decide) 1 1 6 ⟨by decide, by decide⟩ ⟨by decide, by decide⟩).mono ?_⟩
  rintro _ w4 ⟨rfl, h4, hP4⟩
  have hs4 := hP4.size
  refine ⟨_, rfl, (ask_c h4 1 1).mono ?_⟩
  rintro _ w5 ⟨s, rfl, k1, hO5⟩
  have hs5 := hO5.size
  refine ⟨_, s, rfl, (expire_c (h4.inHeap.only0 hO5) 57).mono ?_⟩
  rintro _ w6 ⟨g, rfl, k2, h6, hP6⟩
  have hO6 : Only [] w w6 := by
    have a1 : OnlyP (fun k => w.heap.size ≤ k) w w2 := hO1.trP (hP2.mono fun k _ hk => hk)
    have a2 := (a1.tr0 m3).trans hP4 (fun k hk => .inl (by rcases hk with ⟨hk, _⟩; rcases hk with hk | hk <;> omega))
    have a3 := (a2.tr0 hO5).trans hP6 (fun k hk => .inl (by
      rcases hk with ⟨hk, _⟩
      rcases hk with hk | hk
      · rcases hk with ⟨hk, _⟩
        rcases hk with hk | hk <;> omega
      · omega))
    exact a3.only fun k hk => hk
  have hgl := k2.len
  refine ⟨g, rfl, fun t w' => t = true ∧ Only [] w w', by rintro _ w' ⟨rfl, h⟩; exact ⟨rfl, h⟩, [97], fun _ => ?_, fun hc => ?_, fun hc => ?_⟩
  · have hk : OwnB w4 w5 s [97] := k1
    have hd := (SliceF.onlyP rByte_ok (by decide) ((hk.slice rByte_ok).inHeap rByte_ok (by decide)) hP6 (fun k hk hlt hF => ?_)).bytes
    · exact hd.rd
    · rcases hk with ⟨hk | hk, hlt2⟩
      · exact hk
      · have hw4 : w4.heap.size ≤ k := hk.1
        have := hF.2
        omega
  · refine (next_c h6).mono ?_
    rintro _ w7 ⟨rfl, hO7⟩
    exact ⟨_, rfl, rfl, hO6.tr0 hO7⟩
  · exfalso
    rw [hgl] at hc
    simp only [beq_self_eq_true, Bool.and_true] at hc
    revert hc
    decide
end Go.Proofs.Ytahncinfbhjkgaa.Con
