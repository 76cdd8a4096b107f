/-
  Own work: the contract of SessionPlays.
-/
import Derived.Test.YtahncinfbhjkgaaPlays0
namespace Go.Proofs.Ytahncinfbhjkgaa.Con
open Go Go.RowKit Go.Kt Go.Proofs.Ytahncinfbhjkgaa.Vc
set_option linter.unusedSimpArgs false
set_option linter.unusedVariables false

theorem clone_seats {w : World} {F : Nat → Prop} {y : Sl} {l : List Seat} (hy : Seats w F y l) (hm : l.length * 48 ≤ 140737488355328) :
    ∃ x1 w1, (Instr.buildSlice 42 0 #[]).run Try.prog w = .ok (Sl.v x1) w1 ∧ ∃ x2 w2, (Builtin.append_ #[42, 42] 42 #[Sl.v x1, Sl.v y]).run Try.prog w1 = .ok (Sl.v x2) w2 ∧ Own rSeat 4 49 w.heap.size w2 F x2 l ∧ Only [] w w2 := by
  obtain ⟨x1, w1, k1, x2, w2, k2, k3, k4, k5⟩ := clone_own (P := Try.prog) (t := 42) (ty := 42) (e := 49) (i := Try.t49) (bytes := 48) (by kernel_rfl) (by kernel_rfl) rfl rfl rfl rfl (by decide) rSeat_ok hy hm (by decide)
  exact ⟨x1, w1, k1, x2, w2, k2, k3, k4⟩

/-- two books that do alike, both new since w -/
structure Two (w w' : World) (b c : Nat) (x : BookS) (A C : Nat → Prop) : Prop where
  a : Bk 47 w' A b x
  c : Bk 64 w' C c x
  ac : ∀ k, A k → w.heap.size ≤ k ∧ ¬ C k
  cn : ∀ k, C k → w.heap.size ≤ k
  o : Only [] w w'

theorem plays_c {w : World} {F G : Nat → Prop} {l acts : Sl} {lz : List Seat} {az : List Act'} (hl : Seats w F l lz) (hm : lz.length * 48 ≤ 140737488355328) (next : Int) (hn : InI next) (fresh : Bool) (ha : SliceF rAct 5 w G acts az) :
    Calls Try.prog 6 #[Sl.v l, .int .i64 next, .bool fresh, Sl.v acts] w fun e w' => e = .returned (.bool true) ∧ Only [] w w' := by
  refine ret (pavanelaw19_SessionPlays_wp l next fresh acts (fun v w' => v = .bool true ∧ Only [] w w') w ?_)
  unfold pavanelaw19_SessionPlays_vc
  refine (small_c w).mono ?_
  rintro _ w1 ⟨rfl, hO1⟩
  refine ⟨_, rfl, (new_c w1).mono ?_⟩
  rintro _ w2 ⟨b, rfl, hB, hO2⟩
  refine ⟨_, rfl, (rnew_c w2).mono ?_⟩
  rintro _ w3 ⟨c, rfl, hC, hO3⟩
  have hs1 := hO1.size
  have hs2 := hO2.size
  have hO03 := (hO1.tr0 hO2).tr0 hO3
  refine ⟨_, rfl, fun ob oc w' => ∃ b c x A C, ob = some ⟨b, 0, none⟩ ∧ oc = some ⟨c, 0, none⟩ ∧ Two w w' b c x A C, ?_, fun hfr => ?_, fun hfr => ?_⟩
  · clear hB hC hO1 hO2 hO3 hO03 b c hs1 hs2
    rintro _ _ w3 ⟨b, c, x, A, C, rfl, rfl, hT⟩
    refine ⟨fun h => (by simp at h), fun _ => ?_⟩
    refine ⟨fun nv i w' => ∃ (n : Nat) (x : BookS) (A C : Nat → Prop), i = (n : Int) ∧ nv = 100 - n ∧ n ≤ 100 ∧ Two w w' b c x A C, 100, ⟨0, x, A, C, rfl, rfl, by decide, hT⟩, ?_⟩
    clear hT A C x
    rintro nv _ w7 ⟨n, x, A, C, rfl, rfl, hn', hA7, hC7, hAC, hCn, hO7⟩
    refine ⟨fun hc => ?_, fun _ => ⟨rfl, hO7⟩⟩
    simp only [Bool.and_eq_true, decide_eq_true_eq] at hc
    have hs7 := hO7.size
    obtain ⟨ad, a, d, g1, g2, g3, k1, k2, k3, k4, k5, k6⟩ := act_at ha hO7 (Int.natCast_nonneg n) hc.1
    refine ⟨ad, g1, _, _, _, _, d, g3, (do2_c hA7.inHeap k5 k6 (fun k hk _ hf => by have := (hAC k hf.1).1; omega) k2 k3).mono ?_⟩
    rintro _ w8 ⟨r1, q1, rfl, e1, e2, hA8, hP8, hr⟩
    have hs8 := hP8.size
    have hO8 := Only.trN hO7 hP8 fun k hk => (hAC k hk.1).1
    obtain ⟨A', hA', hAn, hmr⟩ : ∃ A' : Nat → Prop, Bk 47 w8 A' b (doF x a).2 ∧ (∀ k, A' k → (A k ∧ k < w7.heap.size) ∨ w7.heap.size ≤ k) ∧ (∀ k, Mine r1 k → w7.heap.size ≤ k ∧ ¬ A' k) := by
      rcases hr with ⟨_, h⟩ | rfl
      · exact ⟨_, h, fun k hk => .inl hk, fun k hk => ⟨Own.mineB e1 hk, fun hf => by have := Own.mineB e1 hk; have := hf.2; omega⟩⟩
      · exact ⟨_, hA8, fun k hk => hk, fun k hk => absurd rfl hk.1⟩
    have hroom8 : Room w8 r1 := Own.room e1
    have hC8 := hC7.inHeap.onlyP hP8 (fun k hk _ hf => (hAC k hf.1).2 hk.1)
    obtain ⟨ad', a', d', f1, f2, f3, j1, j2, j3, j4, j5, j6⟩ := act_at ha hO8 (Int.natCast_nonneg n) hc.1
    rw [g2] at f2
    injection f2 with f2
    subst f2
    refine ⟨_, _, r1, q1, rfl, ad', f1, _, _, _, _, d', f3, (model_c hC8 j5 j6 j2 j3).mono ?_⟩
    rintro _ w9 ⟨r2, q2, rfl, e3, e4, hC9, hP9⟩
    have hs9 := hP9.size
    have hO9 := Only.trN hO8 hP9 fun k hk => hCn k hk.1
    have hA9 := hA'.inHeap.onlyP hP9 (fun k hk _ hf => by
      rcases hAn k hk.1 with hk' | hk'
      · exact (hAC k hk'.1).2 hf.1
      · have := hf.2; omega)
    have hroom9 : Room w9 r1 := hroom8.keep fun k hk hlt => hP9.block k hlt fun hf => by have := (hmr k hk).1; have := hf.2; omega
    refine ⟨_, _, r2, q2, rfl, fun t w' => t = true ∧ Only [] w9 w', ?_, ?_⟩
    · rintro _ w10 ⟨rfl, hO10⟩
      obtain ⟨y, w11, m1, m2, hO11⟩ := own1 w10 r1
      have hO911 := hO10.tr0 hO11
      have hs11 := hO911.size
      have hroom11 : Room w11 r1 := hroom9.keep fun k _ hlt => hO911.block k hlt (by simp)
      have hs10 := hO10.size
      refine ⟨y, w11, m1, (owned2_c m2 hroom11 fun k hk hmk => by have := hroom9.lt hmk; omega).mono ?_⟩
      rintro _ w12 ⟨t, rfl, hP12, _⟩
      have hs12 := hP12.size
      have hA12 := ((hA9.only0 hO911).onlyP hP12 (fun k hk _ hf => (hmr k hf).2 hk.1)).inHeap
      have hC12 := ((hC9.only0 hO911).onlyP hP12 (fun k hk _ hf => by
        have h1 := (hmr k hf).1
        have h2 := hroom8.lt hf
        rcases hk with hk | hk
        · have := hk.2; omega
        · omega)).inHeap
      have hO12 : Only [] w w12 := Only.trN (hO9.tr0 hO911) hP12 fun k hk => by have := (hmr k hk).1; omega
      refine ⟨t, rfl, _, rfl, (listR_c hA12).mono ?_⟩
      rintro _ w13 ⟨s1, rfl, l1, hO13⟩
      have hok := hA12.ok
      have hl8 := hok.len
      have hC13 := hC12.only0 hO13
      obtain ⟨sc, c1, c2⟩ := hC13.seats
      refine ⟨s1, rfl, (rlist_c c1 c2 (by omega)).mono ?_⟩
      rintro _ w14 ⟨s2, rfl, l2, hO14⟩
      have hl1 : Own rSeatR 4 49 w12.heap.size w14 (fun k => w12.heap.size ≤ k ∧ k < w13.heap.size) s1 (doF x a).2.l := (l1.inHeap rSeatR_ok).keep rSeatR_ok fun k hk hlt => hO14.block k hlt (by simp)
      have hS1 : Own rSeat 4 49 w12.heap.size w14 (fun k => w12.heap.size ≤ k ∧ k < w13.heap.size) s1 (doF x a).2.l := by
        have := Own.map (q := rSeat) (G := fun k => w12.heap.size ≤ k ∧ k < w13.heap.size) id hl1 (fun g x cs _ h => h.1)
        rwa [List.map_id] at this
      refine ⟨s2, rfl, (same_c (hS1.slice rSeat_ok) (l2.slice rSeat_ok)).mono ?_⟩
      rintro _ w15 ⟨rfl, hO15⟩
      refine ⟨_, rfl, (over_c (hl1.keep rSeatR_ok fun k hk hlt => hO15.block k hlt (by simp)) (by omega)).mono ?_⟩
      rintro _ w16 ⟨rfl, hP16⟩
      have hnew : ∀ k, ((w12.heap.size ≤ k ∧ k < w13.heap.size) ∨ s1.a = some ⟨k, 0, none⟩) → w12.heap.size ≤ k := fun k hk => by
        rcases hk with hk | hk
        · exact hk.1
        · exact (l1.blk hk).1
      have hO125 := (hO13.tr0 hO14).tr0 hO15
      have hO16 : Only [] w12 w16 := Only.trN hO125 hP16 hnew
      have hA16 := hA12.only0 hO16
      have hC16 := hC12.only0 hO16
      refine ⟨rfl, _, rfl, (list_c hA16).mono ?_⟩
      rintro _ w17 ⟨s3, rfl, l3, hO17⟩
      have hC17 := hC16.only0 hO17
      obtain ⟨sd, d1, d2⟩ := hC17.seats
      refine ⟨s3, rfl, (rlist_c d1 d2 (by omega)).mono ?_⟩
      rintro _ w18 ⟨s4, rfl, l4, hO18⟩
      refine ⟨s4, rfl, (same_c (SliceF.only rSeat_ok (by decide) (l3.slice rSeat_ok) hO18 (by simp)) (l4.slice rSeat_ok)).mono ?_⟩
      rintro _ w19 ⟨rfl, hO19⟩
      have hO1619 := (hO17.tr0 hO18).tr0 hO19
      have hA19 := hA16.only0 hO1619
      have hC19 := hC16.only0 hO1619
      have hO019 := (hO12.tr0 hO16).tr0 hO1619
      refine ⟨_, rfl, fun t w' => t = false ∧ Only [] w19 w', ?_, ?_⟩
      · rintro _ w20 ⟨rfl, hO20⟩
        refine ⟨fun h => (by cases h), fun _ => ?_⟩
        rw [wr' (x := (n : Int) + 1) (by omega) (by omega)]
        refine ⟨100 - (n + 1), by omega, n + 1, _, _, _, by omega, rfl, by omega, hA19.only0 hO20, hC19.only0 hO20, fun k hk => ⟨?_, fun hf => ?_⟩, fun k hk => ?_, hO019.tr0 hO20⟩
        · rcases hAn k hk.1.1 with hk' | hk'
          · exact (hAC k hk'.1).1
          · omega
        · rcases hf.1 with hf | hf
          · rcases hAn k hk.1.1 with hk' | hk'
            · exact (hAC k hk'.1).2 hf.1
            · have := hf.2; omega
          · have := hk.1.2; omega
        · rcases hk.1 with hk | hk
          · exact hCn k hk.1
          · omega
      · intro w20 hO20
        refine ⟨fun h => (by simp at h), fun _ => ⟨fun h => (by simp at h), fun _ => ⟨fun h => (by simp at h), fun _ => ⟨fun h => (by simp at h), fun _ => ⟨fun h => (by simp at h), fun _ => ?_⟩⟩⟩⟩⟩
        have hC20 := hC19.only0 hO20
        obtain ⟨se, n1, n2⟩ := hC20.seats
        refine ⟨_, rfl, _, Bk.c1 n1, (next_c (hA19.only0 hO20)).mono ?_⟩
        rintro _ w21 ⟨rfl, hO21⟩
        exact ⟨_, rfl, hO21.same (by simp [ptrBlk, n1.lt]), by simp, hO20.tr0 hO21⟩
    · have b1 := SliceF.onlyP rByte_ok (by decide) ((e1.slice rByte_ok).inHeap rByte_ok (by decide)) hP9 (fun k hk _ hf => by
        rcases hk.1 with hk' | hk'
        · exact hk'
        · have := hf.2; have := hk'.1; omega)
      have i1 := SliceF.onlyP rInt_ok (by decide) ((e2.slice rInt_ok).inHeap rInt_ok (by decide)) hP9 (fun k hk _ hf => by
        rcases hk.1 with hk' | hk'
        · exact hk'
        · have := hf.2; have := hk'.1; omega)
      refine ⟨_, b1.bytes.rd, _, (e3.slice rByte_ok).bytes.rd, fun _ => (sameI_c i1 (e4.slice rInt_ok)).mono ?_, fun h => (by simp at h)⟩
      rintro _ w10 ⟨rfl, hO10⟩
      exact ⟨_, rfl, by simp, hO10⟩
  · have hlH := hl.inHeap rSeat_ok (by decide)
    obtain ⟨x1, w4, k1, x2, w5, k2, k3, hO5⟩ := clone_seats (SliceF.only rSeat_ok (by decide) hlH hO03 (by simp)) hm
    have hs3 := hO03.size
    refine ⟨x1, w4, k1, x2, w5, k2, (restore_c (k3.slice rSeat_ok) next hn).mono ?_⟩
    rintro e w6 ⟨hO6, hbad, hgood⟩
    have hO06 := (hO03.tr0 hO5).tr0 hO6
    have hl6 := SliceF.only rSeat_ok (by decide) hlH hO06 (by simp)
    cases hr : restoreOk lz next with
    | false =>
      obtain rfl := hbad hr
      refine ⟨_, _, rfl, (rrestore_c hl6 next hn).mono ?_⟩
      rintro e w7 ⟨hO7, hbad', _⟩
      obtain rfl := hbad' hr
      refine ⟨_, _, rfl, (same_c (SliceF.only rSeat_ok (by decide) (SliceF.only rSeat_ok (by decide) (k3.slice rSeat_ok) hO6 (by simp)) hO7 (by simp)) (SliceF.only rSeat_ok (by decide) hl6 hO7 (by simp))).mono ?_⟩
      rintro _ w8 ⟨rfl, hO8⟩
      exact ⟨_, rfl, fun h => (by simp at h), fun _ => ⟨fun _ => ⟨rfl, (hO06.tr0 hO7).tr0 hO8⟩, fun h => (by simp at h)⟩⟩
    | true =>
      obtain ⟨b', rfl, hB'⟩ := hgood hr
      refine ⟨_, _, rfl, (rrestore_c hl6 next hn).mono ?_⟩
      rintro e w7 ⟨hO7, _, hgood'⟩
      obtain ⟨c', rfl, hC'⟩ := hgood' hr
      refine ⟨_, _, rfl, (same_c (SliceF.only rSeat_ok (by decide) (SliceF.only rSeat_ok (by decide) (k3.slice rSeat_ok) hO6 (by simp)) hO7 (by simp)) (SliceF.only rSeat_ok (by decide) hl6 hO7 (by simp))).mono ?_⟩
      rintro _ w8 ⟨rfl, hO8⟩
      have hs5 := hO5.size
      have hs6 := hO6.size
      refine ⟨_, rfl, fun h => (by simp at h), fun _ => ⟨fun h => (by simp at h), fun _ => ⟨b', c', _, _, _, rfl, rfl, (hB'.inHeap.only0 hO7).only0 hO8, hC'.only0 hO8, fun k hk => ⟨by omega, by omega⟩, fun k hk => by omega, (hO06.tr0 hO7).tr0 hO8⟩⟩⟩
  · exact ⟨b, c, newBook, _, _, rfl, rfl, hB.inHeap.only0 hO3, hC, fun k hk => ⟨by omega, by omega⟩, fun k hk => by omega, hO03⟩

theorem SliceF.map {α β : Type} {r : Rp α} {q : Rp β} {size : Nat} {w : World} {F : Nat → Prop} {s : Sl} {xs : List α} (f : α → β) (h : SliceF r size w F s xs) (hf : ∀ x cs, r w F x cs → q w F (f x) cs) : SliceF q size w F s (xs.map f) :=
  ⟨by rw [List.length_map]; exact h.len, h.cap, h.nil0, h.big, fun j y hy => by
    rw [List.getElem?_map] at hy
    cases hx : xs[j]? with
    | none => rw [hx] at hy; cases hy
    | some x =>
      rw [hx] at hy
      injection hy with hy
      subst hy
      obtain ⟨base, cs, h1, h2, h3, h4, h5⟩ := h.at_ j x hx
      exact ⟨base, cs, h1, h2, h3, h4, hf x cs h5⟩⟩
abbrev RawSeat := Int × Int × List UInt8 × Int × Unit
theorem raw_seat {w : World} {F : Nat → Prop} {x : RawSeat} {cs : List Value} (h : (rPair rInt (rPair rInt (rPair (rSl rByte 1 1) (rPair rInt rUnit)))) w F x cs) : rSeat w F ⟨x.1, x.2.1, x.2.2.1, x.2.2.2.1⟩ cs := by
  obtain ⟨_, _, rfl, ⟨rfl, h1⟩, _, _, rfl, ⟨rfl, h2⟩, _, _, rfl, ⟨d, rfl, h3, h4⟩, _, _, rfl, ⟨rfl, h5⟩, rfl⟩ := h
  simp only [Nat.mul_one] at h4
  exact ⟨d, rfl, h1, h2, h5, h3, Nat.le_trans h4 (by decide)⟩
theorem playsW_c {w : World} {F G : Nat → Prop} {l acts : Sl} {lz : List RawSeat} {az : List Act'} (hl : SliceF (rPair rInt (rPair rInt (rPair (rSl rByte 1 1) (rPair rInt rUnit)))) 4 w F l lz) (hm : lz.length * 48 ≤ 140737488351232) (next : Int) (hn : InI next) (fresh : Bool) (ha : SliceF rAct 5 w G acts az) :
    Calls Try.prog 6 #[Sl.v l, .int .i64 next, .bool fresh, Sl.v acts] w fun e w' => e = .returned (.bool true) ∧ Only [] w w' :=
  plays_c (SliceF.map (q := rSeat) (fun x : RawSeat => (⟨x.1, x.2.1, x.2.2.1, x.2.2.2.1⟩ : Seat)) hl fun _ _ h => raw_seat h) (by rw [List.length_map]; omega) next hn fresh ha
end Go.Proofs.Ytahncinfbhjkgaa.Con
