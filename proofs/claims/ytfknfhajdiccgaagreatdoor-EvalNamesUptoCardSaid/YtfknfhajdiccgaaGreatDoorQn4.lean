import Derived.Test.YtfknfhajdiccgaaGreatDoorQn3
set_option linter.unusedSectionVars false
namespace Go.Proofs.YtfknfhajdiccgaaGreatDoor.Con
open Go Go.RowKit Go.Kt Go.Kt.V Go.Proofs.YtfknfhajdiccgaaGreatDoor.Vc
set_option linter.unusedSimpArgs false
set_option linter.unusedVariables false
set_option maxHeartbeats 1000000
def nmsA : Nat -> Int -> Ex -> List (List UInt8)
 | 0, _, _ => []
 | d + 1, kd, x => (if x.k = kd then [x.s] else []) ++ x.subs.flatMap (nmsA d kd)
def mS (S : List (List UInt8)) : List UInt8 -> Option Value := fun k => if k ∈ S then some (.bool true) else none
theorem mS_some {S : List (List UInt8)} (k : List UInt8) : (mS S k).isSome = true ↔ k ∈ S := by
 unfold mS
 split <;> simp [*]
def om (r2 r3 : Nat) : Int -> Option Value := fun k => if k = 3 then some (.map (some r3)) else if k = 2 then some (.map (some r2)) else none
abbrev SetV (w : World) (r : Nat) (S : List (List UInt8)) : Prop := MapV kS gS w r (mS S) S.length
abbrev OutV (w : World) (r0 r2 r3 : Nat) : Prop := MapV kN (fun _ => True) w r0 (om r2 r3) 2
theorem SetV.add {w : World} {r : Nat} {S : List (List UInt8)} (h : SetV w r S) {s : List UInt8} (hs : gS s) :
  ∃ w', (Instr.mapUpdate 42 (.map (some r)) (.string (T s)) (.bool true)).run Tryz.prog w = .ok () w' /\ SetV w' r (S ++ [s]) /\ Only [r] w w' := by
 obtain ⟨w', h1, h2, h3⟩ := h.update (P := Tryz.prog) (mty := 42) (kt := 9) (et := 4) keyS (by kernel_rfl) (by kernel_rfl) hs (.bool true)
 refine ⟨w', h1, (h2.ext fun k => ?_).le ?_, h3⟩
 · unfold mS
   by_cases hk : k = s
   · simp [hk]
   · simp [hk]
 · rw [List.length_append, List.length_singleton]
   split <;> omega
section
variable {w w' : World} {r0 r2 r3 : Nat}
theorem out_at (h : OutV w r0 r2 r3) (k : Int) : (Instr.lookup 43 (.map (some r0)) (.int .i64 k) false).run Tryz.prog w = .ok (.map (if k = 3 then some r3 else if k = 2 then some r2 else none)) w := by
 have := h.lookup (P := Tryz.prog) (mty := 43) (kt := 3) (et := 42) (z := .map none) keyN (by kernel_rfl) (by kernel_rfl) (fun w => Tryz.zeroValue42 w) k
 rw [this]
 unfold om
 split
 · rfl
 · split <;> rfl
def addIf (b : Prop) [Decidable b] (s : List UInt8) : List (List UInt8) := if b then [s] else []
theorem names_c : ∀ (d : Nat) {w : World} {F : Nat -> Prop} {x : Ex} {cs : List Value} {A B : List (List UInt8)}, rEx d w F x cs -> OutV w r0 r2 r3 -> SetV w r2 A -> SetV w r3 B -> (∀ k, F k -> k ≠ r2 /\ k ≠ r3) -> r0 ≠ r2 -> r0 ≠ r3 -> r2 ≠ r3 -> (∀ e, lenOk e x) ->
  Calls Tryz.prog 11 #[.agg cs.toArray, .map (some r0)] w fun e w' => e = .returned (.tuple #[]) /\ Only [r2, r3] w w' /\ SetV w' r2 (A ++ nmsA d 2 x) /\ SetV w' r3 (B ++ nmsA d 3 x)
 | 0, _, _, _, _, _, _, hx, _, _, _, _, _, _, _, _ => hx.elim
 | d + 1, w, F, x, cs, A, B, ⟨sl, hcs, hsl⟩, h0, h2, h3, hF, n02, n03, n23, hl => by
  subst hcs
  have l0 := h0.lt
  have l2 := h2.lt
  have l3 := h3.lt
  have hs : gS x.s := by
   have := (hl 1).1
   show x.s.length <= maxLen
   have : maxLen = 9223372036854775807 := rfl
   omega
  refine ret (v9w x.k x.n (T x.s) x.op sl x.a (some r0) (fun v w' => v = .tuple #[] /\ Only [r2, r3] w w' /\ SetV w' r2 (A ++ nmsA (d + 1) 2 x) /\ SetV w' r3 (B ++ nmsA (d + 1) 3 x)) w ?_)
  unfold v9v
  intro k0 w0 hk0 hk0' hO0
  have z0 := hO0.size
  have oo : Only [r2, r3] w w0 := hO0.weaken fun _ h => (by cases h)
  have h00 := h0.only hO0 (by simp)
  have h20 := h2.only hO0 (by simp)
  have h30 := h3.only hO0 (by simp)
  have tr : ∀ {u u' : World}, Only [r2, r3] w u -> Only [r2, r3] u u' -> Only [r2, r3] w u' := fun h1 h2 => h1.trans h2 fun x hx => .inl hx
  have e2 : nmsA (d + 1) 2 x = addIf (x.k = 2) x.s ++ x.subs.flatMap (nmsA d 2) := rfl
  have e3 : nmsA (d + 1) 3 x = addIf (x.k = 3) x.s ++ x.subs.flatMap (nmsA d 3) := rfl
  refine ⟨fun u => Only [r2, r3] w u /\ w0.heap.size <= u.heap.size /\ OutV u r0 r2 r3 /\ SetV u r2 (A ++ addIf (x.k = 2) x.s) /\ SetV u r3 (B ++ addIf (x.k = 3) x.s), ?_, _, w0, out_at h00 x.k, Same.refl _ _, fun hn => ?_, fun hn => ?_⟩
  · rintro w1 ⟨hO1, z1, i0, i2, i3⟩
    have hslk : ∀ {u : World}, Only [r2, r3] w u -> SliceF (rEx d) 6 u F sl x.subs := fun hO => SliceF.keep (rEx_ok d) hsl (by decide) fun k hk hlt => hO.block k hlt (by have := hF k hk; simp; omega)
    have hln := (hslk hO1).len
    have hcp := (hslk hO1).cap
    have hbg := (hslk hO1).big
    refine ⟨fun nv i u => ∃ n : Nat, i = (n : Int) /\ nv + n = x.subs.length /\ Only [r2, r3] w u /\ w0.heap.size <= u.heap.size /\ OutV u r0 r2 r3 /\ SetV u r2 (A ++ addIf (x.k = 2) x.s ++ (x.subs.take n).flatMap (nmsA d 2)) /\ SetV u r3 (B ++ addIf (x.k = 3) x.s ++ (x.subs.take n).flatMap (nmsA d 3)),
     x.subs.length, ⟨0, rfl, rfl, hO1, z1, i0, by simpa using i2, by simpa using i3⟩, ?_⟩
    rintro nv _ w2 ⟨n, rfl, hnv, hO2, z2, j0, j2, j3⟩
    refine ⟨fun hlt => ?_, fun hge => ?_⟩
    · have hlt : (n : Int) < (sl.n : Int) := of_decide_eq_true hlt
      obtain ⟨p, y, ds, a1, a2, a3, a4, a5, a6⟩ := (hslk hO2).get (Int.natCast_nonneg n) hlt
      rw [Int.toNat_natCast] at a2
      have hy := List.mem_of_getElem? a2
      obtain ⟨d', rfl⟩ : ∃ e, d = e + 1 := by
       cases d with
       | zero => exact a6.elim
       | succ e => exact ⟨e, rfl⟩
      have a6' := a6
      obtain ⟨s6, hds, _⟩ := a6
      subst hds
      refine ⟨p, a1, _, _, _, _, _, _, a5, fun k3 w3 hk3 hk3' hO3 => ?_⟩
      have z3 := hO3.size
      refine (names_c (d' + 1) (rEx_only a6' hO3) (j0.only hO3 (by simp)) (j2.only hO3 (by simp)) (j3.only hO3 (by simp)) hF n02 n03 n23 fun e => (hl (e + 1)).2 y hy).mono ?_
      rintro _ w4 ⟨rfl, hO4, g2, g3⟩
      have z4 := hO4.size
      have htk : x.subs.take (n + 1) = x.subs.take n ++ [y] := by rw [List.take_add_one, a2]; rfl
      refine ⟨rfl, hO4.same (by simp; omega), nv - 1, by omega, n + 1, by rw [wr' (by omega) (by omega)]; rfl, by omega, tr (hO2.tr0 hO3) hO4, by omega, (j0.only hO3 (by simp)).only hO4 (by simp; omega), ?_, ?_⟩
      · rw [htk, List.flatMap_append, <- List.append_assoc]
        simpa using g2
      · rw [htk, List.flatMap_append, <- List.append_assoc]
        simpa using g3
    · have hge : ¬ (n : Int) < (sl.n : Int) := of_decide_eq_false hge
      have hn : n = x.subs.length := by omega
      subst hn
      rw [List.take_length] at j2 j3
      rw [e2, e3, <- List.append_assoc, <- List.append_assoc]
      exact ⟨rfl, hO2, j2, j3⟩
  · by_cases hk3 : x.k = 3
    · rw [if_pos hk3]
      obtain ⟨w6, u1, u2, u3⟩ := SetV.add h30 hs
      have z6 := u3.size
      refine ⟨w6, u1, u3.same (by simp; omega), oo.trans u3 (by simp), by omega, h00.only u3 (by simp; omega), ?_, ?_⟩
      · have : addIf (x.k = 2) x.s = [] := by unfold addIf; rw [if_neg (by omega)]
        rw [this, List.append_nil]
        exact h20.only u3 (by simp; omega)
      · have : addIf (x.k = 3) x.s = [x.s] := by unfold addIf; rw [if_pos hk3]
        rw [this]
        exact u2
    · rw [if_neg hk3] at hn ⊢
      by_cases hk2 : x.k = 2
      · rw [if_pos hk2]
        obtain ⟨w6, u1, u2, u3⟩ := SetV.add h20 hs
        have z6 := u3.size
        refine ⟨w6, u1, u3.same (by simp; omega), oo.trans u3 (by simp), by omega, h00.only u3 (by simp; omega), ?_, ?_⟩
        · have : addIf (x.k = 2) x.s = [x.s] := by unfold addIf; rw [if_pos hk2]
          rw [this]
          exact u2
        · have : addIf (x.k = 3) x.s = [] := by unfold addIf; rw [if_neg hk3]
          rw [this, List.append_nil]
          exact h30.only u3 (by simp; omega)
      · rw [if_neg hk2] at hn
        cases hn
  · by_cases hk3 : x.k = 3
    · rw [if_pos hk3] at hn; cases hn
    · rw [if_neg hk3] at hn
      by_cases hk2 : x.k = 2
      · rw [if_pos hk2] at hn; cases hn
      · have q2 : addIf (x.k = 2) x.s = [] := by unfold addIf; rw [if_neg hk2]
        have q3 : addIf (x.k = 3) x.s = [] := by unfold addIf; rw [if_neg hk3]
        rw [q2, q3, List.append_nil, List.append_nil]
        exact ⟨oo, Nat.le_refl _, h00, h20, h30⟩
theorem nms_len (kd : Int) : ∀ (d : Nat) (x : Ex), (nmsA d kd x).length <= cntM d x
 | 0, _ => Nat.zero_le _
 | d + 1, x => by
  have h : ∀ l : List Ex, (l.flatMap (nmsA d kd)).length <= cntL (cntM d) l := fun l => by
   induction l with
   | nil => exact Nat.zero_le _
   | cons y l ih =>
    rw [List.flatMap_cons, List.length_append, cntL]
    have := nms_len kd d y
    omega
  rw [nmsA, cntM, List.length_append]
  have := h x.subs
  split
  · rw [List.length_singleton]; omega
  · rw [List.length_nil]; omega
theorem out2 (h : OutV w r0 r2 r3) : (Instr.lookup 43 (.map (some r0)) (.int .i64 2) false).run Tryz.prog w = .ok (.map (some r2)) w := out_at h 2
theorem out3 (h : OutV w r0 r2 r3) : (Instr.lookup 43 (.map (some r0)) (.int .i64 3) false).run Tryz.prog w = .ok (.map (some r3)) w := out_at h 3
theorem ownK {B : Nat} {s : Sl} {l : List (List UInt8)} (h : Own rTx 1 9 B w (fun _ => False) s l) (hO : Only [] w w') : Own rTx 1 9 B w' (fun _ => False) s l :=
 h.keep rTx_ok fun k _ hlt => hO.block k hlt (by simp)
theorem namesP_c {d : Nat} {F : Nat -> Prop} {x : Ex} {cs : List Value} {L2 L3 : List (List UInt8)} (hx : rEx d w F x cs) (hl : ∀ e, lenOk e x) (hm : ∀ e, cntM e x <= 1048576) (hL2 : L2.Pairwise (· < ·)) (hL3 : L3.Pairwise (· < ·))
  (m2 : ∀ a, a ∈ L2 ↔ a ∈ nmsA d 2 x) (m3 : ∀ a, a ∈ L3 ↔ a ∈ nmsA d 3 x) : Calls Tryz.prog 6 #[.agg cs.toArray] w fun e w' => ∃ s t : Sl, e = .returned (.tuple #[s.v, t.v]) /\
   Own rTx 1 9 w.heap.size w' (fun _ => False) s L2 /\ Own rTx 1 9 w.heap.size w' (fun _ => False) t L3 /\ Only [] w w' := by
 cases d with
 | zero => exact hx.elim
 | succ d =>
 have hx0 := hx
 obtain ⟨sl, hcs, hsl⟩ := hx
 subst hcs
 refine (v8w x.k x.n (T x.s) x.op sl x.a (fun v w' => ∃ s t : Sl, v = .tuple #[s.v, t.v] /\ Own rTx 1 9 w.heap.size w' (fun _ => False) s L2 /\ Own rTx 1 9 w.heap.size w' (fun _ => False) t L3 /\ Only [] w w') w ?_).mono (by
  rintro _ w' ⟨v, rfl, s, t, rfl, h⟩; exact ⟨s, t, rfl, h⟩)
 unfold v8v
 intro k0 w0 hk0 hk0' hO0
 have z0 := hO0.size
 obtain ⟨hm0, hM0, hO1⟩ := MapV.make (P := Tryz.prog) (mty := 43) (kv := kN) (g := fun _ => True) w0
 refine ⟨_, _, hm0, hO1.same (by simp; omega), ?_⟩
 have z1 := hM0.lt
 generalize w0.alloc (.map #[] 0) = w1 at *
 obtain ⟨hm1, hM1, hO2⟩ := MapV.make (P := Tryz.prog) (mty := 42) (kv := kS) (g := gS) w1
 refine ⟨_, _, hm1, hO2.same (by simp; omega), ?_⟩
 have z2 := hM1.lt
 generalize w1.alloc (.map #[] 0) = w2 at *
 obtain ⟨w3, u3, hM3, hO3⟩ := (hM0.only hO2 (by simp)).update (P := Tryz.prog) (mty := 43) (kt := 3) (et := 42) (k := 2) keyN (by kernel_rfl) (by kernel_rfl) trivial (.map (some w1.heap.size))
 have z3 := hO3.size
 refine ⟨w3, u3, hO3.same (by simp; omega), ?_⟩
 obtain ⟨hm4, hM4, hO4⟩ := MapV.make (P := Tryz.prog) (mty := 42) (kv := kS) (g := gS) w3
 refine ⟨_, _, hm4, hO4.same (by simp; omega), ?_⟩
 have z4 := hM4.lt
 generalize w3.alloc (.map #[] 0) = w4 at *
 obtain ⟨w5, u5, hM5, hO5⟩ := (hM3.only hO4 (by simp)).update (P := Tryz.prog) (mty := 43) (kt := 3) (et := 42) (k := 3) keyN (by kernel_rfl) (by kernel_rfl) trivial (.map (some w3.heap.size))
 have z5 := hO5.size
 refine ⟨w5, u5, hO5.same (by simp; omega), ?_⟩
 have h0 : OutV w5 w0.heap.size w1.heap.size w3.heap.size := (hM5.ext fun k => rfl).le (by simp)
 have e2 : SetV w5 w1.heap.size [] := (((hM1.only hO3 (by simp; omega)).only hO4 (by simp)).only hO5 (by simp; omega)).ext fun k => rfl
 have e3 : SetV w5 w3.heap.size [] := (hM4.only hO5 (by simp; omega)).ext fun k => rfl
 have oA : Only [] w w5 := ((((hO0.tr0 hO1).tr0 hO2).trans hO3 (by simp; omega)).tr0 hO4).trans hO5 (by simp; omega)
 have zA : w3.heap.size < w5.heap.size := by omega
 have zB : w1.heap.size < w3.heap.size := by omega
 have zC : w0.heap.size < w1.heap.size := by omega
 have zk : k0 < w5.heap.size := by omega
 clear hM0 hM1 hM3 hM4 hM5 hm0 hm1 hm4 u3 u5
 have hxw := (rEx_ok (d + 1)).inHeap hx0
 generalize w0.heap.size = r0 at *
 generalize w1.heap.size = r2 at *
 generalize w3.heap.size = r3 at *
 refine (names_c (d + 1) (rEx_only hxw oA) h0 e2 e3 (fun k hk => ⟨by have := hk.2; omega, by have := hk.2; omega⟩) (by omega) (by omega) (by omega) hl).mono ?_
 rintro _ w6 ⟨rfl, hO6, g2, g3⟩
 have z6 := hO6.size
 have h0 := h0.only hO6 (by simp; omega)
 have oB : Only [] w w6 := oA.trans hO6 (by simp; omega)
 have h2 : SetV w6 r2 (nmsA (d + 1) 2 x) := g2
 have h3 : SetV w6 r3 (nmsA (d + 1) 3 x) := g3
 have c2 := Nat.le_trans (nms_len 2 (d + 1) x) (hm (d + 1))
 have c3 := Nat.le_trans (nms_len 3 (d + 1) x) (hm (d + 1))
 have he2 : ∀ a, a ∈ L2 ↔ (mS (nmsA (d + 1) 2 x) a).isSome = true := fun a => by rw [mS_some, m2]
 have he3 : ∀ a, a ∈ L3 ↔ (mS (nmsA (d + 1) 3 x) a).isSome = true := fun a => by rw [mS_some, m3]
 have zw := oB.size
 refine ⟨rfl, hO6.same (by simp; omega), fun l0 l1 u => Own rTx 1 9 w.heap.size u (fun _ => False) l0 L2 /\ Own rTx 1 9 w.heap.size u (fun _ => False) l1 L3 /\ Only [] w6 u, fun l0 l1 w7 h => ⟨l0, l1, rfl, h.1, h.2.1, oB.tr0 h.2.2⟩, fun w8 o8 => ?_, fun w24 o24 => ?_⟩
 · have z8 := o8.size
   refine ⟨_, _, out2 (h0.only o8 (by simp)), Same.refl _ _, ?_, ?_⟩
   · refine (keysM_c r2 w8).mono ?_
     rintro _ w10 ⟨rfl, hB, hh, _⟩
     have o10 := o8.tr0 hh
     have z10 := o10.size
     refine ⟨itV w8.heap.size, rfl, hh.same (by simp; omega), ?_, ?_⟩
     · have aB2 := hB
       refine (sortedM_c (h2.only o10 (by simp)) (by omega) aB2 hL2 he2).mono ?_
       rintro _ au1 ⟨as2, rfl, aw2, ah1⟩
       have ao1 := o10.tr0 ah1
       have az1 := ao1.size
       refine ⟨as2, rfl, ah1.same (by have := o10.size; simp; omega), ?_⟩
       refine ⟨_, _, out3 (h0.only ao1 (by simp)), Same.refl _ _, ?_⟩
       refine (keysM_c r3 au1).mono ?_
       rintro _ au3 ⟨rfl, aB3, ah3, _⟩
       have ao3 := ao1.tr0 ah3
       have az3 := ao3.size
       refine ⟨itV au1.heap.size, rfl, ah3.same (by have := ao1.size; simp; omega), ?_⟩
       have aw2 := ownK aw2 ah3
       refine (sortedM_c (h3.only ao3 (by simp)) (by omega) aB3 hL3 he3).mono ?_
       rintro _ au4 ⟨as3, rfl, aw3, ah4⟩
       have ao4 := ao3.tr0 ah4
       have az4 := ao4.size
       refine ⟨as3, rfl, ah4.same (by have := ao3.size; simp; omega), ?_⟩
       have aw2 := ownK aw2 ah4
       exact ⟨(aw2).low (by have := o10.size; omega), (aw3).low (by have := o10.size; omega), ao4⟩
     · have bB2 := hB
       refine ⟨_, _, out3 (h0.only o10 (by simp)), Same.refl _ _, ?_⟩
       refine (sortedM_c (h2.only o10 (by simp)) (by omega) bB2 hL2 he2).mono ?_
       rintro _ bu2 ⟨bs2, rfl, bw2, bh2⟩
       have bo2 := o10.tr0 bh2
       have bz2 := bo2.size
       refine ⟨bs2, rfl, bh2.same (by have := o10.size; simp; omega), ?_⟩
       refine (keysM_c r3 bu2).mono ?_
       rintro _ bu3 ⟨rfl, bB3, bh3, _⟩
       have bo3 := bo2.tr0 bh3
       have bz3 := bo3.size
       refine ⟨itV bu2.heap.size, rfl, bh3.same (by have := bo2.size; simp; omega), ?_⟩
       have bw2 := ownK bw2 bh3
       refine (sortedM_c (h3.only bo3 (by simp)) (by omega) bB3 hL3 he3).mono ?_
       rintro _ bu4 ⟨bs3, rfl, bw3, bh4⟩
       have bo4 := bo3.tr0 bh4
       have bz4 := bo4.size
       refine ⟨bs3, rfl, bh4.same (by have := bo3.size; simp; omega), ?_⟩
       have bw2 := ownK bw2 bh4
       exact ⟨(bw2).low (by have := o10.size; omega), (bw3).low (by have := o10.size; omega), bo4⟩
   · skip
     refine ⟨_, _, out3 (h0.only o8 (by simp)), Same.refl _ _, ?_⟩
     refine (keysM_c r2 w8).mono ?_
     rintro _ cu2 ⟨rfl, cB2, ch2, _⟩
     have co2 := o8.tr0 ch2
     have cz2 := co2.size
     refine ⟨itV w8.heap.size, rfl, ch2.same (by have := o8.size; simp; omega), ?_⟩
     refine (sortedM_c (h2.only co2 (by simp)) (by omega) cB2 hL2 he2).mono ?_
     rintro _ cu3 ⟨cs2, rfl, cw2, ch3⟩
     have co3 := co2.tr0 ch3
     have cz3 := co3.size
     refine ⟨cs2, rfl, ch3.same (by have := co2.size; simp; omega), ?_⟩
     refine (keysM_c r3 cu3).mono ?_
     rintro _ cu4 ⟨rfl, cB3, ch4, _⟩
     have co4 := co3.tr0 ch4
     have cz4 := co4.size
     refine ⟨itV cu3.heap.size, rfl, ch4.same (by have := co3.size; simp; omega), ?_⟩
     have cw2 := ownK cw2 ch4
     refine (sortedM_c (h3.only co4 (by simp)) (by omega) cB3 hL3 he3).mono ?_
     rintro _ cu5 ⟨cs3, rfl, cw3, ch5⟩
     have co5 := co4.tr0 ch5
     have cz5 := co5.size
     refine ⟨cs3, rfl, ch5.same (by have := co4.size; simp; omega), ?_⟩
     have cw2 := ownK cw2 ch5
     exact ⟨(cw2).low (by have := o8.size; omega), (cw3).low (by have := o8.size; omega), co5⟩
 · have z24 := o24.size
   refine ⟨_, _, out3 (h0.only o24 (by simp)), Same.refl _ _, ?_⟩
   refine ⟨_, _, out2 (h0.only o24 (by simp)), Same.refl _ _, ?_⟩
   refine (keysM_c r2 w24).mono ?_
   rintro _ du3 ⟨rfl, dB2, dh3, _⟩
   have do3 := o24.tr0 dh3
   have dz3 := do3.size
   refine ⟨itV w24.heap.size, rfl, dh3.same (by have := o24.size; simp; omega), ?_⟩
   refine (sortedM_c (h2.only do3 (by simp)) (by omega) dB2 hL2 he2).mono ?_
   rintro _ du4 ⟨ds2, rfl, dw2, dh4⟩
   have do4 := do3.tr0 dh4
   have dz4 := do4.size
   refine ⟨ds2, rfl, dh4.same (by have := do3.size; simp; omega), ?_⟩
   refine (keysM_c r3 du4).mono ?_
   rintro _ du5 ⟨rfl, dB3, dh5, _⟩
   have do5 := do4.tr0 dh5
   have dz5 := do5.size
   refine ⟨itV du4.heap.size, rfl, dh5.same (by have := do4.size; simp; omega), ?_⟩
   have dw2 := ownK dw2 dh5
   refine (sortedM_c (h3.only do5 (by simp)) (by omega) dB3 hL3 he3).mono ?_
   rintro _ du6 ⟨ds3, rfl, dw3, dh6⟩
   have do6 := do5.tr0 dh6
   have dz6 := do6.size
   refine ⟨ds3, rfl, dh6.same (by have := do5.size; simp; omega), ?_⟩
   have dw2 := ownK dw2 dh6
   exact ⟨(dw2).low (by have := o24.size; omega), (dw3).low (by have := o24.size; omega), do6⟩
end
def putA : List (List UInt8) -> List UInt8 -> List (List UInt8)
 | [], s => [s]
 | a :: l, s => if a < s then a :: putA l s else if a = s then a :: l else s :: a :: l
theorem lt_of_not {a s : List UInt8} (h1 : ¬ a < s) (h2 : a ≠ s) : s < a := by
 rcases Decidable.em (s < a) with h | h
 · exact h
 · exact absurd (List.le_antisymm (List.not_lt.1 h) (List.not_lt.1 h1)) h2
theorem putA_mem (s k : List UInt8) : ∀ l : List (List UInt8), k ∈ putA l s ↔ k = s ∨ k ∈ l
 | [] => by simp [putA]
 | a :: l => by
  unfold putA
  split
  · rw [List.mem_cons, putA_mem s k l, List.mem_cons]
    constructor
    · rintro (h | h | h)
      · exact .inr (.inl h)
      · exact .inl h
      · exact .inr (.inr h)
    · rintro (h | h | h)
      · exact .inr (.inl h)
      · exact .inl h
      · exact .inr (.inr h)
  · split
    · rename_i h
      subst h
      rw [List.mem_cons]
      constructor
      · exact fun h => .inr h
      · rintro (h | h)
        · exact .inl h
        · exact h
    · rw [List.mem_cons]
theorem putA_rise (s : List UInt8) : ∀ {l : List (List UInt8)}, l.Pairwise (· < ·) -> (putA l s).Pairwise (· < ·)
 | [], _ => by simp [putA]
 | a :: l, h => by
  obtain ⟨h1, h2⟩ := List.pairwise_cons.1 h
  unfold putA
  split
  · rename_i ha
    refine List.pairwise_cons.2 ⟨fun b hb => ?_, putA_rise s h2⟩
    rcases (putA_mem s b l).1 hb with rfl | hb
    · exact ha
    · exact h1 b hb
  · rename_i ha
    split
    · exact h
    · rename_i hn
      have hs := lt_of_not ha hn
      refine List.pairwise_cons.2 ⟨fun b hb => ?_, h⟩
      rcases List.mem_cons.1 hb with rfl | hb
      · exact hs
      · exact List.lt_trans hs (h1 b hb)
theorem putA_at (s : List UInt8) : ∀ {l : List (List UInt8)} {k : Nat}, k <= l.length -> (∀ j a, j < k -> l[j]? = some a -> a < s) -> (∀ a, l[k]? = some a -> ¬ a < s) -> putA l s = if l[k]? = some s then l else l.take k ++ [s] ++ l.drop k
 | [], k, hk, _, _ => by
  have : k = 0 := by simpa using hk
  subst this
  simp [putA]
 | a :: l, 0, _, _, h2 => by
  have := h2 a rfl
  unfold putA
  rw [if_neg this]
  simp only [List.getElem?_cons_zero, Option.some.injEq, List.take_zero, List.drop_zero, List.nil_append]
  rfl
 | a :: l, k + 1, hk, h1, h2 => by
  have := h1 0 a (by omega) rfl
  unfold putA
  rw [if_pos this, putA_at s (k := k) (by simpa using hk) (fun j b hj hb => h1 (j + 1) b (by omega) (by simpa using hb)) (fun b hb => h2 b (by simpa using hb))]
  simp only [List.getElem?_cons_succ, List.take_succ_cons, List.drop_succ_cons, List.cons_append]
  split <;> rfl
theorem putA_len (s : List UInt8) : ∀ l : List (List UInt8), (putA l s).length <= l.length + 1
 | [] => by simp [putA]
 | a :: l => by
  unfold putA
  have := putA_len s l
  split
  · simp only [List.length_cons]; omega
  · split <;> simp only [List.length_cons] <;> omega
section
variable {w w' : World} {F : Nat -> Prop}
theorem less_T (a b : List UInt8) : Op.bytesLess (T a).toList (T b).toList = decide (a < b) := by
 rw [Go.Proofs.bytesLess_eq, Lib.toList_data, Lib.toList_data]
theorem eq_T (a b : List UInt8) : ((T a).toList == (T b).toList) = decide (a = b) := by
 rw [Lib.toList_data, Lib.toList_data, Bool.eq_iff_iff]
 simp
theorem put6_c {l : Sl} {L : List (List UInt8)} (h : SliceF rTx 1 w F l L) (s : List UInt8) (hm : L.length <= 4194304) : Calls Tryz.prog 21 #[l.v, .string (T s)] w fun e w' => ∃ t : Sl, e = .returned t.v /\ SliceF rTx 1 w' (fun k => F k ∨ w.heap.size <= k) t (putA L s) /\ Only [] w w' := by
 refine (v38w l (T s) (fun v w' => ∃ t : Sl, v = t.v /\ SliceF rTx 1 w' (fun k => F k ∨ w.heap.size <= k) t (putA L s) /\ Only [] w w') w ?_).mono (by
  rintro _ w' ⟨v, rfl, t, rfl, h⟩; exact ⟨t, rfl, h⟩)
 unfold v38v
 have hln := h.len
 have hcp := h.cap
 have hbg := h.big
 refine ⟨fun nv i u => ∃ k : Nat, i = (k : Int) /\ nv + k = L.length /\ u = w /\ ∀ j a, j < k -> L[j]? = some a -> a < s, L.length, ⟨0, rfl, rfl, rfl, fun j a hj => absurd hj (Nat.not_lt_zero _)⟩, ?_⟩
 rintro nv _ u ⟨k, rfl, hnv, hu, hlt⟩
 obtain rfl : w = u := hu.symm
 obtain ⟨p, a, q1, q2, q3⟩ : ∃ (p : Addr) (a : List UInt8), ((k : Int) < (l.n : Int) -> SlAt l (k : Int) 1 p) /\ ((k : Int) < (l.n : Int) -> Cells w p [.string (T a)]) /\ ((k : Int) < (l.n : Int) -> L[k]? = some a) := by
  by_cases hc : (k : Int) < (l.n : Int)
  · obtain ⟨p, a, cs, a1, a2, a3, a4, a5, a6⟩ := h.get (Int.natCast_nonneg k) hc
    have a6 : cs = [.string (T a)] := a6
    subst a6
    exact ⟨p, a, fun _ => a1, fun _ => a5, fun _ => by rw [Int.toNat_natCast] at a2; exact a2⟩
  · exact ⟨⟨0, 0, none⟩, [], fun h => absurd h hc, fun h => absurd h hc, fun h => absurd h hc⟩
 refine ⟨p, fun hc => q1 (of_decide_eq_true hc), T a, fun hc => q2 (of_decide_eq_true hc), fun hc => ?_, fun hc => ?_⟩
 · rw [less_T, Bool.and_eq_true, decide_eq_true_eq, decide_eq_true_eq] at hc
   refine ⟨nv - 1, by omega, k + 1, by rw [wr' (by omega) (by omega)]; rfl, by omega, rfl, fun j b hj hb => ?_⟩
   by_cases hjk : j = k
   · subst hjk
     rw [q3 hc.1] at hb
     injection hb with hb
     rw [<- hb]; exact hc.2
   · exact hlt j b (by omega) hb
 · rw [less_T, Bool.and_eq_false_iff, decide_eq_false_iff_not, decide_eq_false_iff_not] at hc
   have hstop : ∀ b, L[k]? = some b -> ¬ b < s := fun b hb hbs => by
    have hkl := (List.getElem?_eq_some_iff.1 hb).1
    have hk : (k : Int) < (l.n : Int) := by omega
    rw [q3 hk] at hb
    injection hb with hb
    subst hb
    rcases hc with hc | hc
    · exact hc hk
    · exact hc hbs
   have hput := putA_at s (l := L) (k := k) (by omega) hlt hstop
   refine ⟨p, fun hc => q1 (of_decide_eq_true hc), T a, fun hc => q2 (of_decide_eq_true hc), fun he => ?_, fun he => ?_⟩
   · rw [eq_T, Bool.and_eq_true, decide_eq_true_eq, decide_eq_true_eq] at he
     rw [if_pos (by rw [q3 he.1, he.2])] at hput
     rw [hput]
     exact ⟨l, rfl, SliceF.mono rTx_ok h fun k hk => .inl hk, Only.refl _ _⟩
   · have hne : ¬ L[k]? = some s := fun hs => by
      have hkl := (List.getElem?_eq_some_iff.1 hs).1
      have hk : (k : Int) < (l.n : Int) := by omega
      rw [q3 hk] at hs
      injection hs with hs
      rw [eq_T, decide_eq_true hk, decide_eq_true hs] at he
      cases he
     rw [if_neg hne] at hput
     have hH : SliceF rTx 1 w (fun k => F k /\ k < w.heap.size) l L := SliceF.inHeap rTx_ok h (by decide)
     have hc1 := hH.cut (lo := 0) (hi := k) (m := l.c) (by omega) (by omega) (by omega) (by omega)
     rw [Nat.sub_zero, List.drop_zero] at hc1
     obtain ⟨l0, w1, g1, g2, gs1, g3, g4, g5⟩ := app_own (P := Tryz.prog) (t := 26) (ty := 26) (e := 9) (i := Tryz.t9) (bytes := 16) (size := 1) (r := rTx) (B := w.heap.size) (F := fun k => F k /\ k < w.heap.size) (by kernel_rfl) (by kernel_rfl) rfl rfl rfl rfl rTx_ok
      (Own.nil rTx 1 9 w.heap.size w _) (SliceF.mono rTx_ok hc1 fun k hk => ⟨hk, fun h => by cases h⟩) (Nat.le_refl _) (by rw [List.length_nil, List.length_take]; omega) (by decide)
     have o1 : Only [] w w1 := (Only.refl [] w).trans g3 fun x hx => .inr (g4 x hx).2.1
     have z1 := o1.size
     rw [List.nil_append] at g2
     obtain ⟨y, w2, k1, k3, l2, w3, m1, m2, ⟨gs2, m3, m4⟩, m5⟩ := app_one (P := Tryz.prog) (t := 26) (ty := 26) (e := 9) (i := Tryz.t9) (bytes := 16) (size := 1) (r := rTx) (G := fun _ => False) (v := .string (T s)) (x := s) (by kernel_rfl) (by kernel_rfl) rfl rfl rfl rfl (by decide) (by decide) (by decide) rTx_ok g2 z1 rfl rfl (fun _ h => h.elim) (by rw [List.length_take]; omega)
     have o3 : Only [] w w3 := (o1.tr0 k3).trans m3 fun x hx => .inr (m4 x hx).2.1
     have z3 := o3.size
     have m2' : Own rTx 1 9 w.heap.size w3 (fun k => F k /\ k < w.heap.size) l2 (L.take k ++ [s]) := by
      rcases m2 with ⟨e1, e2⟩ | ⟨g, css, tail, e1, e2, e3, e4, e5, e6, e7, e8⟩
      · exact .inl ⟨e1, e2⟩
      · exact .inr ⟨g, css, tail, e1, e2, e3, e4, e5, e6, e7, All2.imp (fun _ _ h => ⟨h.1, h.2⟩) e8⟩
     have hc2 := (SliceF.only rTx_ok (by decide) hH o3 (by simp)).cut (lo := k) (hi := l.n) (m := l.c) (by omega) (by omega) (by omega) (by omega)
     have hd : (L.drop k).take (l.n - k) = L.drop k := List.take_of_length_le (by rw [List.length_drop]; omega)
     rw [hd] at hc2
     obtain ⟨l3, w4, n1, n2, gs3, n3, n4, n5⟩ := app_own (P := Tryz.prog) (t := 26) (ty := 26) (e := 9) (i := Tryz.t9) (bytes := 16) (size := 1) (r := rTx) (B := w.heap.size) (F := fun k => F k /\ k < w.heap.size) (by kernel_rfl) (by kernel_rfl) rfl rfl rfl rfl rTx_ok
      m2' (SliceF.mono rTx_ok hc2 fun k hk => ⟨hk, fun h => by have := (m2'.blk h).1; dsimp only at this; omega⟩) z3 (by rw [List.length_append, List.length_singleton, List.length_take, List.length_drop]; omega) (by decide)
     have o4 : Only [] w w4 := o3.trans n3 fun x hx => .inr (n4 x hx).2.1
     refine ⟨k, ⟨rfl, by omega⟩, l0, w1, g1, y, w2, k1, l2, w3, m1, k, ⟨rfl, by omega, hcp⟩, l3, w4, n1, l3, rfl, ?_, o4⟩
     rw [hput]
     exact SliceF.mono rTx_ok (n2.slice rTx_ok) fun k hk => hk.elim (fun h => .inl h.1) (fun h => .inr h.1)
def nmR : Nat -> Int -> Ex -> List (List UInt8) -> List (List UInt8)
 | 0, _, _, l => l
 | d + 1, kd, x, l => x.subs.foldl (fun l y => nmR d kd y l) (if x.k = kd then putA l x.s else l)
theorem nmR_mem (kd : Int) (k : List UInt8) : ∀ (d : Nat) (x : Ex) (l : List (List UInt8)), k ∈ nmR d kd x l ↔ k ∈ l ∨ k ∈ nmsA d kd x
 | 0, _, _ => by simp [nmR, nmsA]
 | d + 1, x, l => by
  have h : ∀ (ys : List Ex) (l : List (List UInt8)), k ∈ ys.foldl (fun l y => nmR d kd y l) l ↔ k ∈ l ∨ k ∈ ys.flatMap (nmsA d kd) := fun ys => by
   induction ys with
   | nil => simp
   | cons y ys ih =>
    intro l
    rw [List.foldl_cons, ih, nmR_mem kd k d y l, List.flatMap_cons, List.mem_append, or_assoc]
  rw [nmR, nmsA, h, List.mem_append]
  split
  · rw [putA_mem, List.mem_singleton]
    constructor
    · rintro ((h | h) | h)
      · exact .inr (.inl h)
      · exact .inl h
      · exact .inr (.inr h)
    · rintro (h | h | h)
      · exact .inl (.inr h)
      · exact .inl (.inl h)
      · exact .inr h
  · simp
theorem nmR_rise (kd : Int) : ∀ (d : Nat) (x : Ex) {l : List (List UInt8)}, l.Pairwise (· < ·) -> (nmR d kd x l).Pairwise (· < ·)
 | 0, _, _, h => h
 | d + 1, x, l, h => by
  have hf : ∀ (ys : List Ex) {l : List (List UInt8)}, l.Pairwise (· < ·) -> (ys.foldl (fun l y => nmR d kd y l) l).Pairwise (· < ·) := fun ys => by
   induction ys with
   | nil => exact fun h => h
   | cons y ys ih => exact fun h => ih (nmR_rise kd d y h)
  rw [nmR]
  refine hf _ ?_
  split
  · exact putA_rise _ h
  · exact h
theorem nmR_len (kd : Int) : ∀ (d : Nat) (x : Ex) (l : List (List UInt8)), (nmR d kd x l).length <= l.length + cntM d x
 | 0, _, _ => by simp [nmR, cntM]
 | d + 1, x, l => by
  have hf : ∀ (ys : List Ex) (l : List (List UInt8)), (ys.foldl (fun l y => nmR d kd y l) l).length <= l.length + cntL (cntM d) ys := fun ys => by
   induction ys with
   | nil => intro l; simp [cntL]
   | cons y ys ih =>
    intro l
    have h1 := ih (nmR d kd y l)
    have h2 := nmR_len kd d y l
    rw [List.foldl_cons, cntL]
    omega
  rw [nmR, cntM]
  refine Nat.le_trans (hf _ _) ?_
  split
  · have := putA_len x.s l
    omega
  · omega
theorem cntL_split (f : Ex -> Nat) : ∀ {l : List Ex} {n : Nat} {y : Ex}, l[n]? = some y -> cntL f (l.take n) + f y <= cntL f l
 | [], _, _, h => by simp at h
 | a :: l, 0, y, h => by
  simp only [List.getElem?_cons_zero, Option.some.injEq] at h
  subst h
  simp [cntL]
 | a :: l, n + 1, y, h => by
  have := cntL_split f (l := l) (n := n) (by simpa using h)
  rw [List.take_succ_cons, cntL, cntL]
  omega
theorem foldR_len (kd : Int) (d : Nat) : ∀ (ys : List Ex) (l : List (List UInt8)), (ys.foldl (fun l y => nmR d kd y l) l).length <= l.length + cntL (cntM d) ys
 | [], l => by simp [cntL]
 | y :: ys, l => by
  have h1 := foldR_len kd d ys (nmR d kd y l)
  have h2 := nmR_len kd d y l
  rw [List.foldl_cons, cntL]
  omega
theorem rnames_c (kd : Int) : ∀ (d : Nat) {w : World} {F G : Nat -> Prop} {x : Ex} {cs : List Value} {l : Sl} {L : List (List UInt8)}, rEx d w F x cs -> SliceF rTx 1 w G l L -> L.length + cntM d x <= 4194304 ->
  Calls Tryz.prog 14 #[.agg cs.toArray, .int .i64 kd, l.v] w fun e w' => ∃ t : Sl, e = .returned t.v /\ SliceF rTx 1 w' (fun k => G k ∨ w.heap.size <= k) t (nmR d kd x L) /\ Only [] w w'
 | 0, _, _, _, _, _, _, _, hx, _, _ => hx.elim
 | d + 1, w, F, G, x, cs, l, L, ⟨sl, hcs, hsl⟩, hl, hm => by
  subst hcs
  refine (v37w x.k x.n (T x.s) x.op sl x.a kd l (fun v w' => ∃ t : Sl, v = t.v /\ SliceF rTx 1 w' (fun k => G k ∨ w.heap.size <= k) t (nmR (d + 1) kd x L) /\ Only [] w w') w ?_).mono (by
   rintro _ w' ⟨v, rfl, t, rfl, h⟩; exact ⟨t, rfl, h⟩)
  unfold v37v
  rw [cntM] at hm
  intro k0 w0 hk0 hk0' hO0
  have z0 := hO0.size
  have hl0 := SliceF.only rTx_ok (by decide) hl hO0 (by simp)
  refine ⟨fun l0 u => Only [] w u /\ w0.heap.size <= u.heap.size /\ SliceF rTx 1 u (fun k => G k ∨ w.heap.size <= k) l0 (if x.k = kd then putA L x.s else L), ?_, fun hc => ?_, fun hc => ?_⟩
  · rintro l0 w1 ⟨hO1, z1, h1⟩
    have hslk : ∀ {u : World}, Only [] w u -> SliceF (rEx d) 6 u F sl x.subs := fun hO => SliceF.only (rEx_ok d) (by decide) hsl hO (by simp)
    have hln := (hslk hO1).len
    have hcp := (hslk hO1).cap
    have hbg := (hslk hO1).big
    have hL1 : (if x.k = kd then putA L x.s else L).length <= L.length + 1 := by
     split
     · exact putA_len _ _
     · omega
    generalize hL : (if x.k = kd then putA L x.s else L) = L1 at *
    have er : nmR (d + 1) kd x L = x.subs.foldl (fun l y => nmR d kd y l) L1 := by rw [nmR, hL]
    refine ⟨fun nv l1 i u => ∃ n : Nat, i = (n : Int) /\ nv + n = x.subs.length /\ Only [] w u /\ w0.heap.size <= u.heap.size /\ SliceF rTx 1 u (fun k => G k ∨ w.heap.size <= k) l1 ((x.subs.take n).foldl (fun l y => nmR d kd y l) L1),
     x.subs.length, ⟨0, rfl, rfl, hO1, z1, by simpa using h1⟩, ?_⟩
    rintro nv l1 _ w2 ⟨n, rfl, hnv, hO2, z2, h2⟩
    refine ⟨fun hlt => ?_, fun hge => ?_⟩
    · have hlt : (n : Int) < (sl.n : Int) := of_decide_eq_true hlt
      obtain ⟨p, y, ds, a1, a2, a3, a4, a5, a6⟩ := (hslk hO2).get (Int.natCast_nonneg n) hlt
      rw [Int.toNat_natCast] at a2
      have hy := List.mem_of_getElem? a2
      obtain ⟨d', rfl⟩ : ∃ e, d = e + 1 := by
       cases d with
       | zero => exact a6.elim
       | succ e => exact ⟨e, rfl⟩
      have a6' := a6
      obtain ⟨s6, hds, _⟩ := a6
      subst hds
      have c1 := cntL_split (cntM (d' + 1)) a2
      have c2 := foldR_len kd (d' + 1) (x.subs.take n) L1
      refine ⟨p, a1, _, _, _, _, _, _, a5, (rnames_c kd (d' + 1) a6' h2 (by omega)).mono ?_⟩
      rintro _ w3 ⟨t, rfl, h3, hO3⟩
      have z3 := hO3.size
      have zz := hO2.size
      have htk : x.subs.take (n + 1) = x.subs.take n ++ [y] := by rw [List.take_add_one, a2]; rfl
      refine ⟨t, rfl, hO3.same (by simp; omega), nv - 1, by omega, n + 1, by rw [wr' (by omega) (by omega)]; rfl, by omega, hO2.tr0 hO3, by omega, ?_⟩
      rw [htk, List.foldl_append]
      exact SliceF.mono rTx_ok h3 fun k hk => hk.elim id fun h => .inr (by omega)
    · have hge : ¬ (n : Int) < (sl.n : Int) := of_decide_eq_false hge
      have hn : n = x.subs.length := by omega
      subst hn
      rw [List.take_length] at h2
      rw [er]
      exact ⟨l1, rfl, h2, hO2⟩
  · have hc : x.k = kd := by simpa using hc
    refine (put6_c hl0 x.s (by omega)).mono ?_
    rintro _ w4 ⟨t, rfl, h4, hO4⟩
    have z4 := hO4.size
    refine ⟨t, rfl, hO4.same (by simp; omega), hO0.tr0 hO4, by omega, ?_⟩
    rw [if_pos hc]
    exact SliceF.mono rTx_ok h4 fun k hk => hk.elim .inl fun h => .inr (by omega)
  · have hc : ¬ x.k = kd := by simpa using hc
    rw [if_neg hc]
    exact ⟨hO0, Nat.le_refl _, SliceF.mono rTx_ok hl0 fun k hk => .inl hk⟩
theorem namesR_c {d : Nat} {x : Ex} {cs : List Value} (hx : rEx d w F x cs) (hm : ∀ e, cntM e x <= 1048576) : Calls Tryz.prog 7 #[.agg cs.toArray] w fun e w' => ∃ s t : Sl, e = .returned (.tuple #[s.v, t.v]) /\
  SliceF rTx 1 w' (fun k => w.heap.size <= k) s (nmR d 2 x []) /\ SliceF rTx 1 w' (fun k => w.heap.size <= k) t (nmR d 3 x []) /\ Only [] w w' := by
 cases d with
 | zero => exact hx.elim
 | succ d =>
 have hx0 := hx
 obtain ⟨sl, hcs, hsl⟩ := hx
 subst hcs
 refine (v35w x.k x.n (T x.s) x.op sl x.a (fun v w' => ∃ s t : Sl, v = .tuple #[s.v, t.v] /\ SliceF rTx 1 w' (fun k => w.heap.size <= k) s (nmR (d + 1) 2 x []) /\ SliceF rTx 1 w' (fun k => w.heap.size <= k) t (nmR (d + 1) 3 x []) /\ Only [] w w') w ?_).mono (by
  rintro _ w' ⟨v, rfl, s, t, rfl, h⟩; exact ⟨s, t, rfl, h⟩)
 unfold v35v
 intro k0 w0 hk0 hk0' hO0
 have z0 := hO0.size
 have hb := hm (d + 1)
 have fin : ∀ {u u' : World}, Only [] u u' -> w0.heap.size <= u.heap.size -> Keeps (fun k => k = k0) u u' := fun hO hz k hk _ => hO.block k (by omega) (by simp)
 refine ⟨fun k => k = k0, rfl, (rnames_c 2 (d + 1) (rEx_only hx0 hO0) (SliceF.nil rTx 1 w0 fun _ => False) (by rw [List.length_nil]; omega)).mono ?_⟩
 rintro _ w1 ⟨s, rfl, h1, hO1⟩
 have z1 := hO1.size
 refine ⟨s, rfl, hO1.same (by simp; omega), fin hO1 (Nat.le_refl _), (rnames_c 3 (d + 1) (rEx_only hx0 (hO0.tr0 hO1)) (SliceF.nil rTx 1 w1 fun _ => False) (by rw [List.length_nil]; omega)).mono ?_⟩
 rintro _ w2 ⟨t, rfl, h2, hO2⟩
 exact ⟨t, rfl, hO2.same (by simp; omega), fin hO2 z1, s, t, rfl, SliceF.mono rTx_ok (SliceF.only rTx_ok (by decide) h1 hO2 (by simp)) fun k hk => hk.elim False.elim fun h => by omega, SliceF.mono rTx_ok h2 fun k hk => hk.elim False.elim fun h => by omega, (hO0.tr0 hO1).tr0 hO2⟩
end
section
variable {w w' : World} {F : Nat -> Prop}
def Ln (gs : List Nat) (s : Sl) (u : World) : Prop := s.n = 0 ∨ ∃ g z e, g ∈ gs /\ s.a = some ⟨g, 0, none⟩ /\ Blk u g e z /\ s.n <= z.length
theorem ln_of {B : Nat} {s : Sl} {l : List (List UInt8)} (h : Own rTx 1 9 B w F s l) : ∃ gs, (∀ g, g ∈ gs -> B <= g /\ g < w.heap.size) /\ Ln gs s w := by
 rcases h with ⟨rfl, rfl⟩ | ⟨g, css, tail, h1, h2, h4, h5, h6, h7, h9, h8⟩
 · exact ⟨[], by simp, .inl rfl⟩
 · refine ⟨[g], by simp; exact ⟨h2, h4.lt⟩, .inr ⟨g, _, _, .head _, h1, h4, ?_⟩⟩
   rw [List.length_append, h8.flen]
   omega
theorem Ln.more {gs gs' : List Nat} {s : Sl} (h : Ln gs s w) (hg : ∀ g, g ∈ gs -> g ∈ gs') : Ln gs' s w := by
 rcases h with h | ⟨g, z, e, h1, h2, h3, h4⟩
 · exact .inl h
 · exact .inr ⟨g, z, e, hg g h1, h2, h3, h4⟩
theorem Ln.keep {gs : List Nat} {s : Sl} (h : Ln gs s w) (hk : ∀ g, g ∈ gs -> g < w.heap.size -> w'.heap[g]? = w.heap[g]?) : Ln gs s w' := by
 rcases h with h | ⟨g, z, e, h1, h2, h3, h4⟩
 · exact .inl h
 · exact .inr ⟨g, z, e, h1, h2, (hk g h1 h3.lt).trans h3, h4⟩
theorem Ln.store {gs : List Nat} {s : Sl} (h : Ln gs s w) {g : Nat} {z z' : List Value} {e : TypeId} (hB : Blk w g e z) (hO : Only [g] w w') (hB' : Blk w' g e z') (hz : z'.length = z.length) : Ln gs s w' := by
 rcases h with h | ⟨k, y, f, h1, h2, h3, h4⟩
 · exact .inl h
 · by_cases hk : k = g
   · subst hk
     have he : z.length = y.length := by
      unfold Blk at hB h3
      rw [hB] at h3
      simp only [Option.some.injEq, Obj.cells.injEq, List.toArray_inj] at h3
      simpa using congrArg Array.size h3.1
     exact .inr ⟨k, z', e, h1, h2, hB', by omega⟩
   · exact .inr ⟨k, y, f, h1, h2, (hO.block k h3.lt (by simpa using hk)).trans h3, h4⟩
theorem slAt1 {s : Sl} {g j : Nat} (ha : s.a = some ⟨g, 0, none⟩) (hj : j < s.n) : SlAt s (j : Int) 1 ⟨g, j, none⟩ := ⟨_, ha, by omega, by omega, by rw [addr_lit, Int.toNat_natCast, Nat.zero_add, Nat.mul_one]⟩
theorem Ln.at {gs : List Nat} {s : Sl} (h : Ln gs s w) {j : Nat} (hj : (j : Int) < s.n) : ∃ g z e, g ∈ gs /\ SlAt s (j : Int) 1 ⟨g, j, none⟩ /\ Blk w g e z /\ j + 1 <= z.length := by
 rcases h with h | ⟨g, z, e, h1, h2, h3, h4⟩
 · omega
 · exact ⟨g, z, e, h1, slAt1 h2 (by omega), h3, by omega⟩
theorem enames_c {x : Ex × Nat} {cs : List Value} (hx : rExU w (fun _ => True) x cs) (hb : x.2 <= 1048576) (hE : Er w) : Calls Tryz.prog 3 #[.agg cs.toArray] w fun e w' => e = .returned (.bool true) /\ Only [] w w' := by
 obtain ⟨d, hx, hn⟩ := hx
 obtain ⟨x, cnt⟩ := x
 dsimp only at hx hn hb
 cases d with
 | zero => exact hx.elim
 | succ d =>
 have hx0 := (rEx_ok _).inHeap hx
 obtain ⟨sl, hcs, hsl⟩ := hx
 subst hcs
 refine ret (v33w x.k x.n (T x.s) x.op sl x.a (fun v w' => v = .bool true /\ Only [] w w') w ?_)
 unfold v33v
 have hl : ∀ e, lenOk e x := fun e => (hn e).1
 have hm : ∀ e, cntM e x <= 1048576 := fun e => Nat.le_trans (hn e).2.2 hb
 have r2 : (nmR (d + 1) 2 x []).Pairwise (· < ·) := nmR_rise 2 _ x .nil
 have r3 : (nmR (d + 1) 3 x []).Pairwise (· < ·) := nmR_rise 3 _ x .nil
 have m2 : ∀ a, a ∈ nmR (d + 1) 2 x [] ↔ a ∈ nmsA (d + 1) 2 x := fun a => by rw [nmR_mem]; simp
 have m3 : ∀ a, a ∈ nmR (d + 1) 3 x [] ↔ a ∈ nmsA (d + 1) 3 x := fun a => by rw [nmR_mem]; simp
 intro k0 w0 hk0 hk0' hO0
 have z0 := hO0.size
 refine (evsmall_c w0 (hE.only hO0)).mono ?_
 rintro _ w1 ⟨rfl, hO1⟩
 have z1 := hO1.size
 have o1 := hO0.tr0 hO1
 refine ⟨true, rfl, hO1.same (by simp; omega), (namesP_c (rEx_only hx0 o1) hl hm r2 r3 m2 m3).mono ?_⟩
 rintro _ w2 ⟨l0, l1, rfl, a0, a1, hO2⟩
 have z2 := hO2.size
 have o2 := o1.tr0 hO2
 refine ⟨l0, l1, rfl, hO2.same (by simp; omega), (namesR_c (rEx_only hx0 o2) hm).mono ?_⟩
 rintro _ w3 ⟨l2, l3, rfl, a2, a3, hO3⟩
 have z3 := hO3.size
 have o3 := o2.tr0 hO3
 have a2 := SliceF.inHeap rTx_ok a2 (by decide)
 have a3 := SliceF.inHeap rTx_ok a3 (by decide)
 obtain ⟨gs0, p1, p2⟩ := ln_of a0
 obtain ⟨gs1, q1, q2⟩ := ln_of a1
 have hg : ∀ g, g ∈ gs0 ++ gs1 -> w1.heap.size <= g /\ g < w2.heap.size := fun g h => (List.mem_append.1 h).elim (p1 g) (q1 g)
 have p2 := p2.more (gs' := gs0 ++ gs1) fun g h => List.mem_append.2 (.inl h)
 have q2 := q2.more (gs' := gs0 ++ gs1) fun g h => List.mem_append.2 (.inr h)
 generalize gs0 ++ gs1 = gs at hg p2 q2
 have p2 := p2.keep (w' := w3) fun g h _ => hO3.block g (hg g h).2 (by simp)
 have q2 := q2.keep (w' := w3) fun g h _ => hO3.block g (hg g h).2 (by simp)
 have s0 := flatS (ownK a0 hO3)
 have s1 := flatS (ownK a1 hO3)
 have n0 := s0.cap
 have n1 := s1.cap
 have b0 := s0.big
 have b1 := s1.big
 refine ⟨l2, l3, rfl, hO3.same (by simp; omega), fun b u => b = true /\ Only [] w3 u, ?_, ?_⟩
 · rintro b1 w4 ⟨rfl, hO4⟩
   have z4 := hO4.size
   refine ⟨fun nv i u => ∃ n : Nat, i = (n : Int) /\ nv + n = l0.n /\ Only gs w3 u /\ Ln gs l0 u /\ Ln gs l1 u, l0.n, ⟨0, rfl, rfl, hO4.weaken fun _ h => (by cases h), p2.keep fun g h _ => hO4.block g (by have := hg g h; omega) (by simp), q2.keep fun g h _ => hO4.block g (by have := hg g h; omega) (by simp)⟩, ?_⟩
   rintro nv _ w5 ⟨n, rfl, hnv, hO5, s5, t5⟩
   have z5 := hO5.size
   refine ⟨fun hlt => ?_, fun _ => ?_⟩
   · have hlt := of_decide_eq_true hlt
     obtain ⟨g, z, e, e1, e2, e3, e4⟩ := s5.at hlt
     have hgg := hg g e1
     refine ⟨_, e2, g, n, z, e, rfl, e3, e4, by omega, fun w6 hO6 hB6 => ⟨nv - 1, by omega, n + 1, by rw [wr' (by omega) (by omega)]; rfl, by omega, hO5.trans hO6 fun x hx => .inl (by rw [List.mem_singleton.1 hx]; exact e1), s5.store e3 hO6 hB6 (splice_len (by simp; omega)), t5.store e3 hO6 hB6 (splice_len (by simp; omega))⟩⟩
   · refine ⟨fun nv i u => ∃ n : Nat, i = (n : Int) /\ nv + n = l1.n /\ Only gs w3 u /\ Ln gs l1 u, l1.n, ⟨0, rfl, rfl, hO5, t5⟩, ?_⟩
     rintro nv _ w7 ⟨n, rfl, hnv, hO7, t7⟩
     have z7 := hO7.size
     refine ⟨fun hlt => ?_, fun _ => ?_⟩
     · have hlt := of_decide_eq_true hlt
       obtain ⟨g, z, e, e1, e2, e3, e4⟩ := t7.at hlt
       have hgg := hg g e1
       refine ⟨_, e2, g, n, z, e, rfl, e3, e4, by omega, fun w6 hO6 hB6 => ⟨nv - 1, by omega, n + 1, by rw [wr' (by omega) (by omega)]; rfl, by omega, hO7.trans hO6 fun x hx => .inl (by rw [List.mem_singleton.1 hx]; exact e1), t7.store e3 hO6 hB6 (splice_len (by simp; omega))⟩⟩
     · have o7 : Only [] w w7 := o3.trans hO7 fun x hx => .inr (by have := hg x hx; omega)
       refine (namesP_c (rEx_only hx0 o7) hl hm r2 r3 m2 m3).mono ?_
       rintro _ w9 ⟨l4, l5, rfl, a4, a5, hO9⟩
       have z9 := hO9.size
       have kp : ∀ {s : Sl} {L : List (List UInt8)}, SliceF rTx 1 w3 (fun k => w2.heap.size <= k /\ k < w3.heap.size) s L -> SliceF rTx 1 w9 (fun k => w2.heap.size <= k /\ k < w3.heap.size) s L := fun h =>
        SliceF.only rTx_ok (by decide) (SliceF.only rTx_ok (by decide) h hO7 fun k hk _ hm => by have := hg k hm; omega) hO9 (by simp)
       have f2 := kp a2
       have f3 := kp a3
       refine ⟨l4, l5, rfl, hO9.same (by simp; omega), fun b u => b = true /\ Only [] w9 u, fun b u h => ⟨by rw [h.1], (o7.tr0 hO9).tr0 h.2⟩, fun _ => ?_, fun hc => (by simp at hc)⟩
       refine (same6_c (flatS a4) f2).mono ?_
       rintro _ w11 ⟨rfl, hO11⟩
       have z11 := hO11.size
       refine ⟨_, rfl, hO11.same (by simp; omega), fun _ => ?_, fun hc => (by simp at hc)⟩
       refine (same6_c (SliceF.only rTx_ok (by decide) (flatS a5) hO11 (by simp)) (SliceF.only rTx_ok (by decide) f3 hO11 (by simp))).mono ?_
       rintro _ w12 ⟨rfl, hO12⟩
       exact ⟨_, rfl, hO12.same (by simp; omega), by simp, hO11.tr0 hO12⟩
 · refine (same6_c s0 a2).mono ?_
   rintro _ w13 ⟨rfl, hO13⟩
   have z13 := hO13.size
   refine ⟨_, rfl, hO13.same (by simp; omega), fun _ => ?_, fun hc => (by simp at hc)⟩
   refine (same6_c (SliceF.only rTx_ok (by decide) s1 hO13 (by simp)) (SliceF.only rTx_ok (by decide) a3 hO13 (by simp))).mono ?_
   rintro _ w14 ⟨rfl, hO14⟩
   exact ⟨_, rfl, hO14.same (by simp; omega), by simp, hO13.tr0 hO14⟩
end
end Go.Proofs.YtfknfhajdiccgaaGreatDoor.Con
