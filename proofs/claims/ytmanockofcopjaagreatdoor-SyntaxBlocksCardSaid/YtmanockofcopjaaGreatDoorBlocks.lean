/-
  Own work: SyntaxBlocks: a block that is empty is as none.
-/
import Derived.Test.YtmanockofcopjaaGreatDoorSynE
import Derived.Test.YtmanockofcopjaaGreatDoorSBlk4
import Derived.Test.YtmanockofcopjaaGreatDoorWy
namespace Go.Proofs.YtmanockofcopjaaGreatDoor.Con
open Go Go.RowKit Go.Kt Go.Kt.V Go.Proofs.YtmanockofcopjaaGreatDoor.Vc
set_option linter.unusedSimpArgs false
set_option linter.unusedVariables false
set_option maxHeartbeats 4000000

/-! ## alike both to a third -/
theorem all2_tr {f : Ex → Ex → Bool} (hf : ∀ x y z, f x y = true → f z y = true → f x z = true) : ∀ (xs ys zs : List Ex), xs.length = ys.length → zs.length = ys.length → all2 f xs ys = true → all2 f zs ys = true → all2 f xs zs = true
  | [], _, zs, _, _, _, _ => by cases zs <;> rfl
  | x :: xs, [], _, h, _, _, _ => by simp at h
  | x :: xs, y :: ys, [], _, h, _, _ => by simp at h
  | x :: xs, y :: ys, z :: zs, l1, l2, h1, h2 => by
    simp only [all2, Bool.and_eq_true] at h1 h2 ⊢
    exact ⟨hf _ _ _ h1.1 h2.1, all2_tr hf xs ys zs (by simpa using l1) (by simpa using l2) h1.2 h2.2⟩
theorem diff_len {x y : Ex} (h : diffM false x y = false) : x.subs.length = y.subs.length := by
  simp [diffM] at h
  omega
theorem diff_tr {x y z : Ex} (h1 : diffM false x y = false) (h2 : diffM false z y = false) : diffM false x z = false := by
  simp [diffM] at h1 h2 ⊢
  simp_all
theorem same_tr : ∀ (d : Nat) (x y z : Ex), sameM false d x y = true → sameM false d z y = true → sameM false d x z = true
  | 0, _, _, _, _, _ => rfl
  | d + 1, x, y, z, h1, h2 => by
    rw [sameM] at h1 h2 ⊢
    cases e1 : diffM false x y with
    | true => rw [e1] at h1; cases h1
    | false =>
      cases e2 : diffM false z y with
      | true => rw [e2] at h2; cases h2
      | false =>
        rw [e1] at h1
        rw [e2] at h2
        rw [diff_tr e1 e2]
        exact all2_tr (fun x y z => same_tr d x y z) _ _ _ (diff_len e1) (diff_len e2) h1 h2
theorem Row2.tr {α : Type} {R : α → α → Prop} (hR : ∀ x y z, R x y → R z y → R x z) {xs ys zs : List α} (h : Row2 R xs ys) (k : Row2 R zs ys) : Row2 R xs zs := ⟨h.1.trans k.1.symm, fun i x z hx hz => by
  have hi : i < ys.length := by
    have := (List.getElem?_eq_some_iff.1 hx).1
    rw [← h.1]; exact this
  exact hR _ _ _ (h.2 i x _ hx (List.getElem?_eq_getElem hi)) (k.2 i z _ hz (List.getElem?_eq_getElem hi))⟩
theorem AcE.tr (x y z : Ac) (h : AcE false x y) (k : AcE false z y) : AcE false x z := ⟨h.k.trans k.k.symm, h.n.trans k.n.symm, fun d => same_tr d _ _ _ (h.e d) (k.e d), nof⟩
theorem MvE.tr (x y z : Mv) (h : MvE false x y) (k : MvE false z y) : MvE false x z := ⟨h.k.trans k.k.symm, h.ev.trans k.ev.symm, h.wt.trans k.wt.symm, h.gd.trans k.gd.symm, fun d => same_tr d _ _ _ (h.g d) (k.g d), h.acts.tr AcE.tr k.acts, h.tg.trans k.tg.symm, nof⟩
theorem NbE.tr {x y z : Nb} (h : NbE false x y) (k : NbE false z y) : NbE false x z := ⟨h.k.trans k.k.symm, h.nm.trans k.nm.symm, h.ini.trans k.ini.symm, h.dft.trans k.dft.symm, h.en.tr AcE.tr k.en, h.lv.tr AcE.tr k.lv, h.mv.tr MvE.tr k.mv, nof⟩
theorem NdE.tr : ∀ (d : Nat) (x y z : Nd), NdE false d x y → NdE false d z y → NdE false d x z
  | 0, _, _, _, _, _ => trivial
  | d + 1, x, y, z, h, k => ⟨h.1.tr k.1, h.2.tr (NdE.tr d) k.2⟩
theorem ChE.tr {d : Nat} {x y z : Ch} (h : ChE false d x y) (k : ChE false d z y) : ChE false d x z := ⟨h.vars.tr (fun _ _ _ h k => ⟨h.n.trans k.n.symm, h.v.trans k.v.symm, nof⟩) k.vars, NdE.tr d _ _ _ h.root k.root⟩

/-! ## the texts -/
def pMidA : List Pq3 := [([10], wEnter, kW wEnter), ([32], [123], kS 123), ([32], [125], kS 125), ([32], wOn, kW wOn), ([32], wGo, (1, wGo, 0)), ([32], [45, 62], (4, [45, 62], 0)), ([32], wX, (1, wX, 0)), ([], [59], kS 59)]
def pMidB : List Pq3 := [([10], wOn, kW wOn), ([32], wGo, (1, wGo, 0)), ([32], [123], kS 123), ([32], [125], kS 125), ([32], [45, 62], (4, [45, 62], 0)), ([32], wX, (1, wX, 0)), ([], [59], kS 59)]
theorem midA_ok (r : List UInt8) : okP pMidA r := ⟨rfl, by decide, rfl, rfl, by decide, rfl, rfl, by decide, rfl, rfl, by decide, rfl, rfl, by decide, rfl, rfl, by decide, rfl, rfl, by decide, rfl, rfl, by decide, t59 r, trivial⟩
theorem midB_ok (r : List UInt8) : okP pMidB r := ⟨rfl, by decide, rfl, rfl, by decide, rfl, rfl, by decide, rfl, rfl, by decide, rfl, rfl, by decide, rfl, rfl, by decide, rfl, rfl, by decide, t59 r, trivial⟩
theorem mid_toks {X y0 tail : List UInt8} {L : List Pq3} (hok : ∀ r, okP L r) (hy : flatP L = 10 :: y0) {r : List Tk} (h : toks (X ++ (flatP L ++ 32 :: tail)) 0 = .ok r) :
    ∃ us a q, toks X 0 = .ok (us ++ [⟨5, [], 0, a⟩]) ∧ toks (X ++ (flatP L ++ 32 :: tail)) (X.length + (flatP L).length) = .ok q ∧ r.map k3 = us.map k3 ++ (ksOf L ++ q.map k3) := by
  have e : X ++ (flatP L ++ 32 :: tail) = X ++ 10 :: (y0 ++ 32 :: tail) := by rw [hy]; rfl
  have h0 := h
  rw [e] at h0
  obtain ⟨us, a, q, h1, h2, rfl⟩ := toks_nl _ 0 (Nat.zero_le _) (Nat.le_refl _) h0
  rw [← e] at h2
  have hd : (X ++ (flatP L ++ 32 :: tail)).drop X.length = flatP L ++ 32 :: tail := List.drop_left
  have hX : X.length ≤ (X ++ (flatP L ++ 32 :: tail)).length := by rw [List.length_append]; omega
  obtain ⟨ts, h3⟩ := pe_of L hok _ _ _ _ hX hd h2
  obtain ⟨vs, h4, h5⟩ := pc_of L hok _ _ _ _ hX hd h3
  rw [h2] at h4
  cases h4
  exact ⟨us, a, ts, h1, h3, by rw [List.map_append, List.map_append, h5]; rfl⟩
def mk0 (q : K3) : Tk := ⟨q.1, q.2.1, q.2.2, 0⟩
theorem k3_mk0 (l : List K3) : (l.map mk0).map k3 = l := by
  rw [List.map_map]
  have : k3 ∘ mk0 = id := rfl
  rw [this, List.map_id]
theorem tk_l {P R : List Tk} {i : Nat} (h : i < P.length) : tk (P ++ R) i = tk P i := by unfold tk; rw [List.getElem?_append_left h]
theorem tk_r {P R : List Tk} (j : Nat) : tk (P ++ R) (P.length + j) = tk R j := by unfold tk; rw [List.getElem?_append_right (by omega), Nat.add_sub_cancel_left]
theorem Al.endL {ts ts' : List Tk} (h : Al ts ts') (k : EndL ts) : EndL ts' := fun i hi => by
  rw [h.k, h.len]
  exact k i (by rw [← h.len]; exact hi)
theorem blocks_law (X tail : List UInt8) (h1 : (parseC (X ++ (flatP pMidA ++ 32 :: tail))).2.1 = 0) (h2 : (parseC (X ++ (flatP pMidB ++ 32 :: tail))).2.1 = 0) :
    ∀ d, ChE false d (parseC (X ++ (flatP pMidA ++ 32 :: tail))).1 (parseC (X ++ (flatP pMidB ++ 32 :: tail))).1 := by
  have hT : ∀ {l : List UInt8}, (parseC l).2.1 = 0 → (tokensM l).2.1 = 0 ∧ (chartS (tokensM l).1).2.fc = 0 ∧ (parseC l).1 = (chartS (tokensM l).1).1 := fun {l} h => by
    by_cases c : (tokensM l).2.1 = 0
    · rw [parseC_ok c] at h ⊢
      by_cases c2 : (chartS (tokensM l).1).2.fc ≠ 0
      · rw [if_pos c2] at h
        exact absurd h c2
      · rw [if_neg c2]
        exact ⟨c, Decidable.not_not.1 c2, rfl⟩
    · exfalso
      unfold parseC at h
      rw [if_pos c] at h
      exact c h
  have hK : ∀ {l : List UInt8}, (tokensM l).2.1 = 0 → toks l 0 = .ok (tokensM l).1 := fun {l} h => by
    unfold tokensM at h ⊢
    by_cases c : 16384 < l.length
    · rw [if_pos c] at h; cases h
    · rw [if_neg c] at h ⊢
      cases ht : toks l 0 with
      | error x => rw [ht] at h; exact absurd h (toks_er _ 0 (Nat.zero_le _) (Nat.le_refl _) x ht)
      | ok r => rfl
  obtain ⟨a1, a2, a3⟩ := hT h1
  obtain ⟨b1, b2, b3⟩ := hT h2
  rw [a3, b3]
  have tA := hK a1
  have tB := hK b1
  have eA := (tokensM_ok a1).1
  have eB := (tokensM_ok b1).1
  generalize (tokensM (X ++ (flatP pMidA ++ 32 :: tail))).1 = RA' at *
  generalize (tokensM (X ++ (flatP pMidB ++ 32 :: tail))).1 = RB' at *
  obtain ⟨us, ea, q, x1, x2, x3⟩ := mid_toks (y0 := (flatP pMidA).tail) midA_ok rfl tA
  obtain ⟨us', eb, q', y1, y2, y3⟩ := mid_toks (y0 := (flatP pMidB).tail) midB_ok rfl tB
  rw [x1] at y1
  have eus : us' = us := by
    have := Except.ok.inj y1
    exact (List.append_inj this.symm (by
      have := congrArg List.length this
      simp at this
      omega)).1
  subst eus
  have dA : (X ++ (flatP pMidA ++ 32 :: tail)).drop (X.length + (flatP pMidA).length) = 32 :: tail := by
    rw [← List.drop_drop, List.drop_left, List.drop_left]
  have dB : (X ++ (flatP pMidB ++ 32 :: tail)).drop (X.length + (flatP pMidB).length) = 32 :: tail := by
    rw [← List.drop_drop, List.drop_left, List.drop_left]
  have lA : X.length + (flatP pMidA).length ≤ (X ++ (flatP pMidA ++ 32 :: tail)).length := by simp only [List.length_append]; omega
  have lB : X.length + (flatP pMidB).length ≤ (X ++ (flatP pMidB ++ 32 :: tail)).length := by simp only [List.length_append]; omega
  have hq := toks_shift _ _ _ (Nat.le_refl _) lA lB (dA.trans dB.symm) x2 y2
  have hq0 : q ≠ [] := by
    obtain ⟨vs, a, rfl, _⟩ := toks_good _ _ lA (Nat.le_refl _) x2
    simp
  rw [hq] at y3
  generalize hP : us'.map k3 = P at *
  generalize hQ : q.map k3 = Q at *
  have hQ0 : 0 < Q.length := by
    rw [← hQ, List.length_map]
    exact List.length_pos_iff.2 hq0
  have AA : Al RA' (P.map mk0 ++ ((ksOf pMidA).map mk0 ++ Q.map mk0)) := al_of (by rw [x3, List.map_append, List.map_append, k3_mk0, k3_mk0, k3_mk0])
  have AB : Al RB' (P.map mk0 ++ ((ksOf pMidB).map mk0 ++ Q.map mk0)) := al_of (by rw [y3, List.map_append, List.map_append, k3_mk0, k3_mk0, k3_mk0])
  have hPl : (P.map mk0).length = P.length := List.length_map _
  have kA : ((ksOf pMidA).map mk0).length = 8 := rfl
  have kB : ((ksOf pMidB).map mk0).length = 7 := rfl
  have C : Ct (P.map mk0 ++ ((ksOf pMidA).map mk0 ++ Q.map mk0)) (P.map mk0 ++ ((ksOf pMidB).map mk0 ++ Q.map mk0)) P.length := by
    refine ⟨AA.endL eA, AB.endL eB, ?_, ?_, ?_, ?_, ?_, ?_⟩
    · rw [List.length_append, List.length_append, hPl, kA, List.length_map]; omega
    · rw [List.length_append, List.length_append, List.length_append, List.length_append, hPl, kA, kB, List.length_map]; omega
    · intro i hi
      rw [tk_l (by rw [hPl]; exact hi), tk_l (by rw [hPl]; exact hi)]
    · intro i hi
      obtain ⟨j, rfl⟩ : ∃ j, i = P.length + (8 + j) := ⟨i - P.length - 8, by omega⟩
      have e1 : tk (P.map mk0 ++ ((ksOf pMidA).map mk0 ++ Q.map mk0)) (P.length + (8 + j)) = tk (Q.map mk0) j := by
        have := tk_r (P := P.map mk0) (R := (ksOf pMidA).map mk0 ++ Q.map mk0) (8 + j)
        rw [hPl] at this
        rw [this]
        exact tk_r (P := (ksOf pMidA).map mk0) (R := Q.map mk0) j
      have e2 : tk (P.map mk0 ++ ((ksOf pMidB).map mk0 ++ Q.map mk0)) (P.length + (7 + j)) = tk (Q.map mk0) j := by
        have := tk_r (P := P.map mk0) (R := (ksOf pMidB).map mk0 ++ Q.map mk0) (7 + j)
        rw [hPl] at this
        rw [this]
        exact tk_r (P := (ksOf pMidB).map mk0) (R := Q.map mk0) j
      rw [e1, ← e2]
      congr 1
      omega
    · intro j x hx
      have hj : j < 8 := (List.getElem?_eq_some_iff.1 hx).1
      have := tk_r (P := P.map mk0) (R := (ksOf pMidA).map mk0 ++ Q.map mk0) j
      rw [hPl] at this
      rw [this, tk_l (by rw [kA]; exact hj)]
      unfold tk
      rw [List.getElem?_map]
      have hx' : (ksOf pMidA)[j]? = some x := hx
      rw [hx']
      rfl
    · intro j x hx
      have hj : j < 7 := (List.getElem?_eq_some_iff.1 hx).1
      have := tk_r (P := P.map mk0) (R := (ksOf pMidB).map mk0 ++ Q.map mk0) j
      rw [hPl] at this
      rw [this, tk_l (by rw [kB]; exact hj)]
      unfold tk
      rw [List.getElem?_map]
      have hx' : (ksOf pMidB)[j]? = some x := hx
      rw [hx']
      rfl
  obtain ⟨cA, sA⟩ := chart_a AA
  obtain ⟨cB, sB⟩ := chart_a AB
  have := chart_b C (by rw [sA.fc]; exact a2) (by rw [sB.fc]; exact b2)
  intro d
  have k := cB d
  rw [this] at k
  exact (cA d).tr k
theorem T_apb (l m : List UInt8) : T l ++ T m = T (l ++ m) := by
  apply ByteArray.ext
  simp [T]
def pre0 : List UInt8 := [99, 104, 97, 114, 116, 32, 99, 32, 123, 32]
theorem blocks_c {w : World} (hd tl : List UInt8) (hE : Er w) (l1 : hd.length ≤ 140737488351232) (l2 : tl.length ≤ 140737488351232) : Calls Tryz.prog 6 #[.string (T hd), .string (T tl)] w fun e w' => e = .returned (.bool true) ∧ Only [] w w' := by
  refine ret (pavanelaw07_SyntaxBlocks_wp (T hd) (T tl) (fun v w' => v = .bool true ∧ Only [] w w') w ?_)
  unfold pavanelaw07_SyntaxBlocks_vc
  refine (synsmall_c w hE).mono ?_
  rintro _ w0 ⟨rfl, hO0⟩
  have tA : (((ByteArray.mk #[99, 104, 97, 114, 116, 32, 99, 32, 123, 32]) ++ T hd) ++ (ByteArray.mk #[10, 101, 110, 116, 101, 114, 32, 123, 32, 125, 32, 111, 110, 32, 103, 111, 32, 45, 62, 32, 120, 59, 32])) ++ T tl = T ((pre0 ++ hd) ++ (flatP pMidA ++ 32 :: tl)) := by
    rw [show ByteArray.mk #[99, 104, 97, 114, 116, 32, 99, 32, 123, 32] = T pre0 from rfl, show ByteArray.mk #[10, 101, 110, 116, 101, 114, 32, 123, 32, 125, 32, 111, 110, 32, 103, 111, 32, 45, 62, 32, 120, 59, 32] = T (flatP pMidA ++ [32]) from rfl, T_apb, T_apb, T_apb]
    simp only [List.append_assoc, List.cons_append, List.nil_append]
  have tB : (((ByteArray.mk #[99, 104, 97, 114, 116, 32, 99, 32, 123, 32]) ++ T hd) ++ (ByteArray.mk #[10, 111, 110, 32, 103, 111, 32, 123, 32, 125, 32, 45, 62, 32, 120, 59, 32])) ++ T tl = T ((pre0 ++ hd) ++ (flatP pMidB ++ 32 :: tl)) := by
    rw [show ByteArray.mk #[99, 104, 97, 114, 116, 32, 99, 32, 123, 32] = T pre0 from rfl, show ByteArray.mk #[10, 111, 110, 32, 103, 111, 32, 123, 32, 125, 32, 45, 62, 32, 120, 59, 32] = T (flatP pMidB ++ [32]) from rfl, T_apb, T_apb, T_apb]
    simp only [List.append_assoc, List.cons_append, List.nil_append]
  have z1 : (ByteArray.mk #[99, 104, 97, 114, 116, 32, 99, 32, 123, 32] ++ T hd).size = 10 + hd.length := by
    rw [show ByteArray.mk #[99, 104, 97, 114, 116, 32, 99, 32, 123, 32] = T pre0 from rfl, T_apb, T_size, List.length_append]; rfl
  have z2 : (ByteArray.mk #[99, 104, 97, 114, 116, 32, 99, 32, 123, 32] ++ T hd ++ (ByteArray.mk #[10, 101, 110, 116, 101, 114, 32, 123, 32, 125, 32, 111, 110, 32, 103, 111, 32, 45, 62, 32, 120, 59, 32])).size = 10 + hd.length + 23 := by
    rw [show ByteArray.mk #[99, 104, 97, 114, 116, 32, 99, 32, 123, 32] = T pre0 from rfl, show ByteArray.mk #[10, 101, 110, 116, 101, 114, 32, 123, 32, 125, 32, 111, 110, 32, 103, 111, 32, 45, 62, 32, 120, 59, 32] = T (flatP pMidA ++ [32]) from rfl, T_apb, T_apb, T_size, List.length_append, List.length_append]; rfl
  have z3 : (ByteArray.mk #[99, 104, 97, 114, 116, 32, 99, 32, 123, 32] ++ T hd ++ (ByteArray.mk #[10, 111, 110, 32, 103, 111, 32, 123, 32, 125, 32, 45, 62, 32, 120, 59, 32])).size = 10 + hd.length + 17 := by
    rw [show ByteArray.mk #[99, 104, 97, 114, 116, 32, 99, 32, 123, 32] = T pre0 from rfl, show ByteArray.mk #[10, 111, 110, 32, 103, 111, 32, 123, 32, 125, 32, 45, 62, 32, 120, 59, 32] = T (flatP pMidB ++ [32]) from rfl, T_apb, T_apb, T_size, List.length_append, List.length_append]; rfl
  have sH := T_size hd
  have sT := T_size tl
  refine ⟨true, rfl, fun _ => ⟨rfl, hO0⟩, fun hc => ⟨by omega, by omega, by omega, ?_⟩⟩
  rw [tA]
  have law := blocks_law (pre0 ++ hd) tl
  refine (sparse_c _ (hE.only hO0)).mono ?_
  rintro _ w4 ⟨vs, cs, rfl, hC, hO4⟩
  obtain ⟨en, lv, mv, kids, rfl, _⟩ := hC.root
  refine ⟨vs, _, _, _, _, en, lv, mv, kids, _, _, _, rfl, by omega, by omega, by omega, fun k4 k5 w5 hk4 hk4' hk5 hk5' hO5 => ?_⟩
  rw [tB]
  refine (sparse_c _ (hE.only ((hO0.tr0 hO4).tr0 hO5))).mono ?_
  rintro _ w6 ⟨vs2, cs2, rfl, hC2, hO6⟩
  obtain ⟨en2, lv2, mv2, kids2, rfl, _⟩ := hC2.root
  have y4 := hO4.size
  have y5 := hO5.size
  have hO06 := ((hO0.tr0 hO4).tr0 hO5).tr0 hO6
  refine ⟨vs2, _, _, _, _, en2, lv2, mv2, kids2, _, _, _, rfl, hO6.same (by simp; omega), fun k6 k7 w7 hk6 hk6' hk7 hk7' hO7 => ⟨fun _ => ⟨rfl, hO06.tr0 hO7⟩, fun hcc => ?_⟩⟩
  have hcc : (parseC (pre0 ++ hd ++ (flatP pMidA ++ 32 :: tl))).2.1 = 0 ∧ (parseC (pre0 ++ hd ++ (flatP pMidB ++ 32 :: tl))).2.1 = 0 := by simpa using hcc
  have y6 := hO6.size
  have y7 := hO7.size
  have c7 := hC.here.only ((hO5.tr0 hO6).tr0 hO7)
  have d7 := hC2.here.only hO7
  refine (sameCh_c (t := false) c7.off d7.off (law hcc.1 hcc.2 15)).mono ?_
  rintro _ w8 ⟨rfl, hO8⟩
  exact ⟨true, rfl, hO8.same (by simp; omega), rfl, hO06.tr0 (hO7.tr0 hO8)⟩
end Go.Proofs.YtmanockofcopjaaGreatDoor.Con
