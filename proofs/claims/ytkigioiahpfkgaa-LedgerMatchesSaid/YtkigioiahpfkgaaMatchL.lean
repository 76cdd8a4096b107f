/-
  Own work: the contract of LedgerMatches.
-/
import Derived.Test.YtkigioiahpfkgaaMatchC
import Derived.Test.YtkigioiahpfkgaaLaw0
namespace Go.Proofs.Ytkigioiahpfkgaa.Con
open Go Go.RowKit Go.Kt Go.Proofs.Ytkigioiahpfkgaa.Vc
set_option linter.unusedSimpArgs false
set_option linter.unusedVariables false

abbrev rStep : Rp (Int × Int × Int × Int × Unit) := rPair rInt (rPair rInt (rPair rInt (rPair rInt rUnit)))
theorem rStep_ok : rStep.Ok := rPair_ok rInt_ok (rPair_ok rInt_ok (rPair_ok rInt_ok (rPair_ok rInt_ok rUnit_ok)))

theorem new0_c (w : World) : Calls Try.prog 6 #[.int .i64 0, .int .i64 0, Sl.v Sl.nil] w fun e w' => ∃ b, e = .returned (.tuple #[.pointer (some ⟨b, 0, none⟩), .int .i64 0]) ∧ w.heap.size ≤ b ∧ Led w' (fun k => w.heap.size ≤ k) b (L0 []) ∧ Only [] w w' := by
  refine (new_c (SliceF.nil rEnt 4 w fun _ => False) 0 0).mono ?_
  rintro e w' ⟨h1, _, h2⟩
  obtain ⟨b, g1, rfl, g2⟩ := h2 (by decide)
  exact ⟨b, rfl, g1, g2, h1⟩

/-- the entry that is added -/
def newE (len : Nat) (term : Int) (i : Int) : Ent := ⟨(len : Int) + 1, term, 0, [byte8 i]⟩
theorem put_one {xs : List Ent} (term i : Int) (hl : (xs.length : Int) ≤ 1099511627776) : ∃ zs, putS (L0 xs) [newE xs.length term i] = L0 zs ∧ (zs = xs ∨ zs = xs ++ [newE xs.length term i]) := by
  simp only [putS]
  split
  · exact ⟨xs, rfl, .inl rfl⟩
  · refine ⟨_, ?_, .inr rfl⟩
    simp only [newE, L0]
    rw [show ((xs.length : Int) + 1 - 1 - 0).toNat = xs.length by omega, List.take_length]

theorem ledgerMatches_c {w : World} {F G : Nat → Prop} {start steps : Sl} {st : List Int} {sp : List (Int × Int × Int × Int × Unit)} (hst : SliceF rInt 1 w F start st) (hsp : SliceF rStep 4 w G steps sp) :
    Calls Try.prog 4 #[Sl.v start, Sl.v steps] w fun e w' => e = .returned (.bool true) ∧ Only [] w w' := by
  refine ret (pavanelaw24_LedgerMatches_wp start steps (fun v w' => v = _ ∧ Only [] w w') w ?_)
  unfold pavanelaw24_LedgerMatches_vc
  have hst0 := hst.inHeap rInt_ok (by decide)
  have hsp0 := hsp.inHeap rStep_ok (by decide)
  refine (small_c w).mono ?_
  rintro _ w1 ⟨rfl, hO1⟩
  refine ⟨_, rfl, fun b w2 hb1 hb2 hO2 hB2 => ?_⟩
  have hO02 := hO1.tr0 hO2
  have hs1 := hO1.size
  have hs2 := hO02.size
  refine ⟨fun nv i w' => ∃ bs : List Nat, i = (bs.length : Int) ∧ bs.length ≤ 3 ∧ nv = 3 - bs.length ∧ Blk w' b 38 (bs.map ptr ++ List.replicate (3 - bs.length) (.pointer none)) ∧ Mem w.heap.size b w' bs (bs.map fun _ => []) ∧ Only [] w w', 3,
    ⟨[], rfl, by decide, rfl, hB2, ⟨rfl, List.nodup_nil, by simp, fun i c x h => by simp at h⟩, hO02⟩, ?_⟩
  rintro nv _ w3 ⟨bs, rfl, hl, rfl, hB3, hM3, hO3⟩
  have hbl3 := hB3.lt
  have hs3 := hO3.size
  refine ⟨fun hc => ?_, fun hc => ?_⟩
  · have hc : (bs.length : Int) < 3 := of_decide_eq_true hc
    refine (new0_c w3).mono ?_
    rintro _ w4 ⟨c, rfl, hc1, hL, hO4⟩
    have hs4 := hO4.size
    refine ⟨_, _, rfl, fun h => by simp at h, fun _ => ⟨⟨by omega, by omega⟩, b, bs.length, _, 38, by rw [Int.toNat_natCast, addr_lit]; simp, hO4.blk hB3 (by simp), by simp; omega, fun w5 hO5 hB5 => ?_⟩⟩
    have hcb : b < c := by omega
    rw [splice_one (by simp; omega)] at hB5
    have hM4 := hM3.push (z := []) hO4 hc1 hs3 hbl3 hL
    have hM5 : Mem w.heap.size b w5 (bs ++ [c]) ((bs ++ [c]).map fun _ => []) := by
      have := hM4.only hO5 (by simp)
      rw [List.map_append]; exact this
    rw [wr' (x := (bs.length : Int) + 1) (by omega) (by omega)]
    refine ⟨3 - (bs ++ [c]).length, by simp; omega, bs ++ [c], by simp, by simp; omega, rfl, ?_, hM5, (hO3.tr0 hO4).new hO5 (by omega)⟩
    have hcells : (bs.map ptr ++ List.replicate (3 - bs.length) (Value.pointer none)).set bs.length (.pointer (some ⟨c, 0, none⟩)) = (bs ++ [c]).map ptr ++ List.replicate (3 - (bs ++ [c]).length) (.pointer none) := by
      rw [List.set_append_right _ _ (by simp), List.length_map, Nat.sub_self, show 3 - bs.length = (3 - (bs ++ [c]).length) + 1 by simp; omega, List.replicate_succ, List.set_cons_zero, List.map_append]
      simp [ptr]
    rw [← hcells]; exact hB5
  · have hc : ¬ (bs.length : Int) < 3 := of_decide_eq_false hc
    have hl3 : bs.length = 3 := by omega
    have hB3' : Blk w3 b 38 (bs.map ptr) := by simpa [hl3] using hB3
    obtain ⟨b0, b1, b2, rfl⟩ : ∃ b0 b1 b2, bs = [b0, b1, b2] := by
      match bs, hl3 with
      | [x, y, z], _ => exact ⟨x, y, z, rfl⟩
    clear hc hl hl3 hB3
    have hlo := hM3.lo
    generalize hbs : [b0, b1, b2] = bs at *
    have hbsl : bs.length = 3 := by rw [← hbs]; rfl
    have hbsn : ∀ g, g ∈ bs → w.heap.size ≤ g ∧ g ≠ b := fun g hg => ⟨(hlo g hg).1, (hlo g hg).2.1⟩
    refine ⟨fun nv term owner i w' => ∃ (n own : Nat) (ls : List (List Ent)), i = (n : Int) ∧ n ≤ 60 ∧ nv = 60 - n ∧ owner = (own : Int) ∧ own < 3 ∧ 0 ≤ term ∧ term ≤ n ∧ Tri own term ls ∧ ls.length = 3 ∧ Mem w.heap.size b w' bs ls ∧ Blk w' b 38 (bs.map ptr) ∧ Only [] w w', 60,
      ⟨0, 0, bs.map fun _ => [], rfl, by decide, rfl, rfl, by decide, by decide, by decide, ⟨fun i j x y hx hy => ?_, fun i x hx e he => ?_, fun i x o hx _ j e hj => ?_⟩, by simp [hbsl], hM3, hB3', hO3⟩, ?_⟩
    · have : x = [] := by
        rw [List.getElem?_map] at hx
        cases h : bs[i]? <;> rw [h] at hx <;> simp at hx
        exact hx
      subst this
      exact fun j a b ha => by simp at ha
    · have : x = [] := by
        rw [List.getElem?_map] at hx
        cases h : bs[i]? <;> rw [h] at hx <;> simp at hx
        exact hx
      subst this
      simp at he
    · have : x = [] := by
        rw [List.getElem?_map] at hx
        cases h : bs[i]? <;> rw [h] at hx <;> simp at hx
        exact hx
      subst this
      simp at hj
    rintro nv term _ _ w4 ⟨n, own, ls, rfl, hn, rfl, rfl, hown, ht0, ht1, hT, hll, hM, hB, hO4⟩
    have hs4 := hO4.size
    have hbl4 := hB.lt
    refine ⟨fun hc => ?_, fun hc => ?_⟩
    · simp only [Bool.and_eq_true, decide_eq_true_eq] at hc
      obtain ⟨hc1, hc2⟩ := hc
      refine ⟨fun term' owner' w' => w4 = w' ∧ ∃ own' : Nat, owner' = (own' : Int) ∧ own' < 3 ∧ 0 ≤ term' ∧ term' ≤ n + 1 ∧ Tri own' term' ls, ?_, ?_⟩
      · rintro term' _ _ ⟨rfl, own', rfl, hown', ht0', ht1', hT'⟩
        obtain ⟨c, o, e1, e2, hL⟩ := hM.get (i := own') (by omega)
        have hcell : ∀ {w' : World}, Blk w' b 38 (bs.map ptr) → Cells w' (Addr.add ⟨b, 0, none⟩ (Int.toNat (own' : Int) * 1)) [.pointer (some ⟨c, 0, none⟩)] := fun h => ptrs_at h (by rw [Int.toNat_natCast, List.getElem?_map, e1]; rfl)
        refine ⟨⟨by omega, by omega⟩, _, hcell hB, (last_c hL).mono ?_⟩
        rintro _ w5 ⟨rfl, hO5⟩
        obtain ⟨l1, l2, l3, l4⟩ := hL.last_in
        rw [L0_last] at *
        refine ⟨_, _, rfl, ⟨by omega, by omega⟩, _, hcell (hO5.blk hB (by simp)), ?_⟩
        have hs5 := hO5.size
        have hb1 := build_own (P := Try.prog) (t := 32) (e := 5) (i := Try.t5) (z := .int .u8 0) (w := w5) (F := fun _ => False) (vs := [.int .u8 (IntKind.u8.wrap n)]) (parts := #[(0, .int .u8 (IntKind.u8.wrap n))]) (len := 1) (xs := [byte8 n]) (r := rByte) (size := 1)
          (by kernel_rfl) (by kernel_rfl) rfl rfl (by decide) rfl rfl (by decide) (by decide) rByte_ok ⟨⟨rfl, by rw [← byte8_v]; rfl⟩, trivial⟩
        obtain ⟨x3, w6, k1, k2, k3, k4, k5, k6⟩ := hb1
        have hs6 := k3.size
        refine ⟨x3, w6, k1, ?_⟩
        rw [wr' (x := (o.length : Int) + 1) (by omega) (by omega)]
        have hb2 := build_own (P := Try.prog) (t := 22) (e := 34) (i := Try.t34) (w := w6) (F := fun k => w5.heap.size ≤ k) (vs := [.agg #[.int .i64 ((o.length : Int) + 1), .int .i64 term', .int .i64 0, Sl.v x3]]) (parts := #[(0, .agg #[.int .i64 ((o.length : Int) + 1), .int .i64 term', .int .i64 0, Sl.v x3])]) (len := 1)
          (xs := [newE o.length term' n]) (r := rEnt) (size := 4)
          (by kernel_rfl) (by kernel_rfl) rfl rfl (by decide) rfl rfl (by decide) (by decide) rEnt_ok ⟨⟨rfl, x3, rfl, (show InI ((o.length : Int) + 1) from ⟨by omega, by omega⟩), (show InI term' from ⟨by omega, by omega⟩), (show InI 0 from ⟨by decide, by decide⟩), (k2.slice rByte_ok).mono rByte_ok fun k hk => hk.elim False.elim fun h => h.1, by simp [newE]⟩, trivial⟩
        obtain ⟨x4, w7, m1, m2, m3, m4, m5, m6⟩ := hb2
        refine ⟨x4, w7, m1, ?_⟩
        have hs7 := m3.size
        have hO47 : Only [] w4 w7 := (hO5.tr0 k3).tr0 m3
        refine (put_c (G := fun k => w5.heap.size ≤ k) (hL.only hO47 (by simp)) ((m2.slice rEnt_ok).mono rEnt_ok fun k hk => hk.elim id fun h => by omega) (by have := (hM.lo c (List.mem_of_getElem? e1)).2.2; omega)).mono ?_
        rintro _ w8 ⟨rfl, u1, hO8⟩
        have hs8 := hO8.size
        obtain ⟨zs, z1, z2⟩ := put_one (xs := o) term' n l4
        rw [z1] at u1
        have hM8 := (hM.only hO47 (by simp)).put e1 hO8 (by omega) (by omega) u1
        have hcb := (hbsn c (List.mem_of_getElem? e1))
        have hB8 : Blk w8 b 38 (bs.map ptr) := hO8.blk (hO47.blk hB (by simp)) (by simp; omega)
        have hT8 : Tri own' term' (ls.set own' zs) := by
          rcases z2 with rfl | rfl
          · rw [set_same e2]; exact hT'
          · exact hT'.added e2 _ rfl
        have hO08 : Only [] w w8 := (hO4.tr0 hO47).new hO8 hcb.1
        refine ⟨_, rfl, fun nv k w' => ∃ (m : Nat) (ls' : List (List Ent)), k = (m : Int) ∧ m ≤ 2 ∧ nv = 2 - m ∧ Tri own' term' ls' ∧ ls'.length = 3 ∧ Mem w.heap.size b w' bs ls' ∧ Blk w' b 38 (bs.map ptr) ∧ Only [] w w', 2,
          ⟨0, _, rfl, by decide, rfl, hT8, by simp [hll], hM8, hB8, hO08⟩, ?_⟩
        rintro nv2 _ w9 ⟨m, ls', rfl, hm, rfl, hT9, hll9, hM9, hB9, hO9⟩
        refine ⟨fun hc => ?_, fun hc => ?_⟩
        · simp only [Bool.and_eq_true, decide_eq_true_eq] at hc
          obtain ⟨hc3, hc4⟩ := hc
          rw [wr' (x := (m : Int) * 7) (by omega) (by omega), wr' (x := (n : Int) + (m : Int) * 7) (by omega) (by omega)]
          have t1 := Int.tmod_nonneg (steps.n : Int) (show (0 : Int) ≤ (n : Int) + (m : Int) * 7 by omega)
          have t2 := Int.tmod_lt_of_pos ((n : Int) + (m : Int) * 7) (show (0 : Int) < steps.n by omega)
          obtain ⟨ad, x, cs, g1, g2, g3, g4, g5, ⟨_, _, rfl, ⟨rfl, _⟩, _, _, rfl, ⟨rfl, _⟩, _, _, rfl, ⟨rfl, _⟩, _, _, rfl, ⟨rfl, _⟩, rfl⟩⟩ := (hsp0.keep rStep_ok (by decide) (fun k _ hlt => hO9.block k hlt (by simp))).get t1 t2
          refine ⟨some ⟨b0, 0, none⟩, some ⟨b1, 0, none⟩, some ⟨b2, 0, none⟩, ?_, by omega, ad, g1, x.1, x.2.1, x.2.2.1, x.2.2.2.1, g5, fun w10 hO10 => ?_⟩
          · have := hB9.cellsAt 0 (bs.map ptr) (by rw [List.drop_zero, List.take_length])
            rw [← hbs] at this
            exact this
          · have hs9 := hO9.size
            have hs10 := hO10.size
            have hbl9 := hB9.lt
            refine (take_c (hM9.only hO10 (by simp)) hll9 (by omega) (by omega) hT9 x.1 x.2.1 x.2.2.1 x.2.2.2.1 hbs.symm).mono ?_
            rintro _ w11 ⟨rfl, ls2, v1, v2, v3, v4⟩
            refine ⟨_, rfl, fun h => (by cases h), fun _ => ?_⟩
            rw [wr' (x := (m : Int) + 1) (by omega) (by omega)]
            exact ⟨2 - (m + 1), by omega, m + 1, ls2, by omega, by omega, rfl, v3, v1, v2, v4.blk (hO10.blk hB9 (by simp)) (fun h => (hbsn b h).2 rfl), (hO9.tr0 hO10).trans v4 fun g hg => .inr (hbsn g hg).1⟩
        · rw [wr' (x := (n : Int) + 1) (by omega) (by omega)]
          exact ⟨60 - (n + 1), by omega, n + 1, own', ls', by omega, by omega, rfl, rfl, hown', ht0', by omega, hT9, hll9, hM9, hB9, hO9⟩
      · obtain ⟨ad, x, cs, g1, g2, g3, g4, g5, rfl, g6⟩ := (hst0.keep rInt_ok (by decide) (fun k _ hlt => hO4.block k hlt (by simp))).get (Int.natCast_nonneg n) hc1
        refine ⟨ad, g1, x, g5, fun _ => ⟨ad, g1, x, g5, rfl, ?_⟩, fun _ => ⟨rfl, own, rfl, hown, ht0, by omega, hT⟩⟩
        obtain ⟨p1, p2⟩ := bits_mod3 (Int.fdiv x (2 ^ 3))
        rw [wr' (x := term + 1) (by omega) (by omega)]
        exact ⟨_, (Int.toNat_of_nonneg p1).symm, by omega, by omega, by omega, hT.newTerm _⟩
    · refine ⟨fun t w' => t = true ∧ Only [] w w', by rintro _ w' ⟨rfl, h⟩; exact ⟨rfl, h⟩, ?_⟩
      obtain ⟨c0, x0, e1, e2, hL0⟩ := hM.get (i := 0) (by omega)
      obtain ⟨c1, x1, f1, f2, hL1⟩ := hM.get (i := 1) (by omega)
      obtain ⟨c2, x2, g1, g2, hL2⟩ := hM.get (i := 2) (by omega)
      have cell : ∀ {w' : World} {i c : Nat}, Only [] w4 w' → bs[i]? = some c → Cells w' (Addr.add ⟨b, 0, none⟩ i) [.pointer (some ⟨c, 0, none⟩)] := fun {w' i c} hO h => by
        have := ptrs_at (hO.blk hB (by simp)) (i := i) (c := c) (by rw [List.getElem?_map, h]; rfl)
        rwa [Nat.mul_one] at this
      refine ⟨_, cell (Only.refl _ _) e1, _, cell (Only.refl _ _) f1, (match_c hL0 hL1 (hT.lm 0 1 x0 x1 e2 f2)).mono ?_⟩
      rintro _ w5 ⟨rfl, hO5⟩
      refine ⟨_, rfl, fun _ => ⟨_, cell hO5 f1, _, cell hO5 g1, (match_c (hL1.only hO5 (by simp)) (hL2.only hO5 (by simp)) (hT.lm 1 2 x1 x2 f2 g2)).mono ?_⟩, fun h => (by cases h)⟩
      rintro _ w6 ⟨rfl, hO6⟩
      have hO56 := hO5.tr0 hO6
      refine ⟨_, rfl, fun _ => ⟨_, cell hO56 e1, _, cell hO56 g1, (match_c (hL0.only hO56 (by simp)) (hL2.only hO56 (by simp)) (hT.lm 0 2 x0 x2 e2 g2)).mono ?_⟩, fun h => (by cases h)⟩
      rintro _ w7 ⟨rfl, hO7⟩
      exact ⟨_, rfl, rfl, hO4.tr0 (hO56.tr0 hO7)⟩
end Go.Proofs.Ytkigioiahpfkgaa.Con
