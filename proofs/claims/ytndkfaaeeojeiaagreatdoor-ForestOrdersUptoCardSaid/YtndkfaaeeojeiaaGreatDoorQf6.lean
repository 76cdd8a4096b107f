import Derived.Test.YtndkfaaeeojeiaaGreatDoorQf5
set_option linter.unusedSectionVars false
namespace Go.Proofs.YtndkfaaeeojeiaaGreatDoor.Con
open Go Go.RowKit Go.Kt Go.Kt.V Go.Proofs.YtndkfaaeeojeiaaGreatDoor.Vc
set_option linter.unusedSimpArgs false
set_option linter.unusedVariables false
set_option maxHeartbeats 4000000
mutual
theorem nNd_sz : ∀ x : Nd, nNd x <= szN x
 | .mk b l => by
  rw [nNd, szN]
  have := nNds_sz l
  unfold szB
  omega
theorem nNds_sz : ∀ l : List Nd, nNds l <= szNs l
 | [] => by rw [nNds]; exact Nat.zero_le _
 | x :: l => by
  rw [nNds, szNs]
  exact Nat.add_le_add (nNd_sz x) (nNds_sz l)
end
mutual
theorem nMv_sz : ∀ x : Nd, nMv x <= szN x
 | .mk b l => by
  rw [nMv, szN]
  have := nMvs_sz l
  have := szMs_len b.mv
  unfold szB
  omega
theorem nMvs_sz : ∀ l : List Nd, nMvs l <= szNs l
 | [] => by rw [nMvs]; exact Nat.zero_le _
 | x :: l => by
  rw [nMvs, szNs]
  exact Nat.add_le_add (nMv_sz x) (nMvs_sz l)
end
theorem nNds_snoc (x : Nd) : ∀ l : List Nd, nNds (l ++ [x]) = nNds l + nNd x
 | [] => by simp [nNds]
 | y :: l => by rw [List.cons_append, nNds, nNds, nNds_snoc x l]; omega
theorem nMvs_snoc (x : Nd) : ∀ l : List Nd, nMvs (l ++ [x]) = nMvs l + nMv x
 | [] => by simp [nMvs]
 | y :: l => by rw [List.cons_append, nMvs, nMvs, nMvs_snoc x l]; omega
theorem szNs_app : ∀ l m : List Nd, szNs (l ++ m) = szNs l + szNs m
 | [], m => by rw [List.nil_append, szNs]; omega
 | y :: l, m => by rw [List.cons_append, szNs, szNs, szNs_app l m]; omega
theorem sizes_c : ∀ (D : Nat) (w : World) (F : Nat -> Prop) (x : Nd) (cs : List Value), rNd false D w F x cs -> szN x <= 8388608 -> Calls Tryz.prog 29 #[.agg cs.toArray] w fun e w' => e = .returned (.tuple #[.int .i64 (nNd x : Int), .int .i64 (nMv x : Int)]) /\ Only [] w w'
 | 0, w, F, x, cs, hx, _ => hx.elim
 | D + 1, w, F, x, cs, hx, hs => by
  obtain ⟨bb, ks⟩ := x
  obtain ⟨en, lv, mv, kids, rfl, hnb, hkids⟩ := hx
  have hmv := hnb.2.2.1
  have hmv : SliceF (rMv false) 13 w F mv bb.mv := hmv
  have hk : SliceF (rNd false D) 9 w F kids ks := hkids.1
  show Calls Tryz.prog 29 #[.agg (ndv bb.k bb.nm bb.ini bb.dft en lv mv kids bb.a).toArray] w _
  refine ret (v58w bb.k (T bb.nm) (T bb.ini) (T bb.dft) en lv mv kids bb.a (fun v w' => v = .tuple #[.int .i64 (nNd (.mk bb ks) : Int), .int .i64 (nMv (.mk bb ks) : Int)] /\ Only [] w w') w ?_)
  unfold v58v
  have z1 := nNds_sz ks
  have z2 := nMvs_sz ks
  have z3 := szMs_len bb.mv
  rw [szN] at hs
  have hs0 := hs
  unfold szB at hs0
  have n6 := hmv.len
  have n7 := hk.len
  have z4 := szNs_len ks
  intro k0 w1 hk0 hk0' hO1 w2 hO2
  refine ⟨fun nv a m i w' => ∃ j : Nat, i = j /\ j <= ks.length /\ nv = ks.length - j /\ a = (1 + nNds (ks.take j) : Nat) /\ m = (bb.mv.length + nMvs (ks.take j) : Nat) /\ k0 < w'.heap.size /\ Only [] w w', ks.length, ⟨0, rfl, Nat.zero_le _, rfl, by rw [List.take_zero, nNds]; rfl, by rw [List.take_zero, nMvs, n6]; rfl, Nat.lt_of_lt_of_le hk0' hO2.size, hO1.tr0 hO2⟩, ?_⟩
  rintro nv _ _ _ w3 ⟨j, rfl, hj, rfl, rfl, rfl, hk3, hO3⟩
  have ecut : szNs ks = szNs (ks.take j) + szNs (ks.drop j) := by rw [<- szNs_app, List.take_append_drop]
  have y1 := nNds_sz (ks.take j)
  have y2 := nMvs_sz (ks.take j)
  refine ⟨fun hc => ?_, fun hc => ?_⟩
  · have hlt : (j : Int) < kids.n := of_decide_eq_true hc
    obtain ⟨ad, y, cs, g1, g2, g3, g4, g5, g6⟩ := (SliceF.only (rNd_ok false D) (by decide) hk hO3 (by simp)).get (Int.natCast_nonneg j) hlt
    rw [Int.toNat_natCast] at g2
    have hys := szNs_mem (List.mem_of_getElem? g2)
    have htk : ks.take (j + 1) = ks.take j ++ [y] := by
     rw [List.take_add_one, g2]
     rfl
    have ecut1 : szNs ks = szNs (ks.take (j + 1)) + szNs (ks.drop (j + 1)) := by rw [<- szNs_app, List.take_append_drop]
    have y3 : nNds (ks.take j) + nNd y <= szNs (ks.take (j + 1)) := by rw [<- nNds_snoc, <- htk]; exact nNds_sz _
    have y4 : nMvs (ks.take j) + nMv y <= szNs (ks.take (j + 1)) := by rw [<- nMvs_snoc, <- htk]; exact nMvs_sz _
    have g6' := g6
    cases D with
    | zero => exact g6'.elim
    | succ D =>
    obtain ⟨en', lv', mv', kids', rfl, _⟩ := g6'
    refine ⟨ad, g1, _, _, _, _, en', lv', mv', kids', _, g5, fun k3 w4 hk3' hk3'' hO4 => ?_⟩
    refine (sizes_c (D + 1) w4 F y _ ((rNd_ok false _).keep g6 fun k _ hlt => hO4.block k hlt (by simp)) (by omega)).mono ?_
    rintro _ w5 ⟨rfl, hO5⟩
    refine ⟨_, _, rfl, hO5.same (by have := hO4.size; simp; omega), ks.length - (j + 1), by omega, j + 1, by rw [wr' (by omega) (by omega)]; rfl, by omega, rfl, ?_, ?_, ?_, (hO3.tr0 hO4).tr0 hO5⟩
    · rw [htk, nNds_snoc, wr' (by omega) (by omega)]; omega
    · rw [htk, nMvs_snoc, wr' (by omega) (by omega)]; omega
    · have := hO4.size; have := hO5.size; omega
  · have hge : ¬ (j : Int) < kids.n := of_decide_eq_false hc
    have hje : j = ks.length := by omega
    subst hje
    rw [List.take_of_length_le (Nat.le_refl _)]
    refine ⟨?_, hO3⟩
    rw [nNd, nMv, Nat.add_comm]
structure Pt4 (w : World) (b : Nat) (sl : Sl) (l : List UInt8) (v2 v3 : Value) : Prop where
 blk : ∃ q : Option Addr, Blk w b 68 [.pointer q, sl.v, v2, v3]
 len : sl.n = l.length
 some : l ≠ [] -> ∃ g, sl.a = .some ⟨g, 0, none⟩ /\ b < g /\ sl.c ≠ 0 /\ (∃ n, w.shape? g = .some (5, n) /\ l.length <= n) /\ Cells w ⟨g, 0, none⟩ (l.map byteV)
 cap : sl.a = none ∨ sl.c ≠ 0
 big : l.length <= 9223372036854775807
section
variable {w : World} {b : Nat} {sl : Sl} {l : List UInt8} {v2 v3 : Value}
theorem Pt4.only {w' : World} (h : Pt4 w b sl l v2 v3) (hO : Only [] w w') : Pt4 w' b sl l v2 v3 := by
 obtain ⟨⟨q, h1⟩, h2, h3, h4, h5⟩ := h
 refine ⟨⟨q, hO.blk h1 (by simp)⟩, h2, fun hl => ?_, h4, h5⟩
 obtain ⟨g, a1, a2, a3, ⟨n, a4, a5⟩, a6⟩ := h3 hl
 have hg : g < w.heap.size := by
  refine Decidable.byContradiction fun hn => ?_
  unfold World.shape? at a4
  rw [Array.getElem?_eq_none (by omega)] at a4
  cases a4
 have hk := hO.block g hg (by simp)
 exact ⟨g, a1, a2, a3, ⟨n, (shape_keep hk).trans a4, a5⟩, a6.keep hk⟩
theorem Qz.pt {w0 : World} {st : St} (h : Qz w0 b w l st) : ∃ sl, Pt4 w b sl l (.bool st.1) (.int .i64 st.2) /\ ∀ k, sl.a = some ⟨k, 0, none⟩ -> Bu w b k := by
 obtain ⟨q, sl, hq, hB, hb⟩ := h.ex
 refine ⟨sl, ⟨⟨_, hB⟩, hb.len, fun hl => ?_, ?_, ?_⟩, fun k hk => sl_bu hB hk⟩
 · rcases hb with ⟨_, e⟩ | ⟨g, tail, h1, h2, h3, h4, h5, h6, h7, h8⟩
   · exact absurd e hl
   · have h0 : l.length ≠ 0 := fun e => hl (List.eq_nil_of_length_eq_zero e)
     refine ⟨g, h1, h2, by omega, ⟨_, by unfold World.shape?; unfold Blk at h3; rw [h3], by simp⟩, h3.cells 0 (l.map byteV) fun j v hj => by rw [Nat.zero_add, List.getElem?_append_left (List.getElem?_eq_some_iff.1 hj).1]; exact hj⟩
 · rcases hb with ⟨e, _⟩ | ⟨g, tail, h1, h2, h3, h4, h5, h6, h7, h8⟩
   · exact .inl (by rw [e])
   · exact .inr (by omega)
 · rcases hb with ⟨_, e⟩ | ⟨g, tail, h1, h2, h3, h4, h5, h6, h7⟩
   · subst e; simp
   · omega
theorem ppstr_c (h : Pt4 w b sl l v2 v3) : Calls Tryz.prog 36 #[.pointer (some ⟨b, 0, none⟩)] w fun e w' => e = .returned (.string (T l)) /\ Pt4 w' b sl l v2 v3 /\ OnlyP (fun k => b < k /\ sl.a = some ⟨k, 0, none⟩) w w' := by
 refine ret (v86w ⟨b, 0, none⟩ (fun v w' => v = .string (T l) /\ Pt4 w' b sl l v2 v3 /\ OnlyP (fun k => b < k /\ sl.a = some ⟨k, 0, none⟩) w w') w ?_)
 unfold v86v
 intro w0 hO0
 have h0 := h.only hO0
 obtain ⟨⟨q, hB⟩, hlen, hsome, hcap, hbig⟩ := h0
 refine ⟨fun k => k = b, sl, Blk.at1 hB 1 rfl, rfl, sl, Blk.at1 hB 1 rfl, sl.a, w0, ?_, fun k _ _ => rfl, ?_⟩
 · obtain ⟨sa, sn', sc⟩ := sl
   cases sa with
   | none => exact Lib.run_unsafeSliceData_nil _ _ _ _ _
   | some a =>
    rcases hcap with e | e
    · cases e
    · exact Lib.run_unsafeSliceData_row _ _ _ _ _ _ e
 · by_cases hl : l = []
   · subst hl
     have hn : sl.n = 0 := hlen
     refine ⟨T [], w0, ?_, fun k _ _ => rfl, rfl, ⟨⟨q, hB⟩, hlen, hsome, hcap, hbig⟩, hO0.p0⟩
     rw [hn]
     exact Lib.run_unsafeString_none _ _ _ _ _
   · obtain ⟨g, ha, hbg, hc, ⟨m, hsh, hm⟩, hcells⟩ := hsome hl
     have hF := freeze_only w0 ⟨g, 0, none⟩ l.length
     have hbl : b < w0.heap.size := hB.lt
     refine ⟨T l, w0.freeze ⟨g, 0, none⟩ l.length, ?_, fun k hk hlt => hF.block k hlt (by dsimp only; omega), rfl, ⟨⟨q, hF.blk hB (by dsimp only; omega)⟩, hlen, fun _ => ⟨g, ha, hbg, hc, ⟨m, (freeze_shape _ _ _ _).trans hsh, hm⟩, fun j v hj => by rw [freeze_cell]; exact hcells j v hj⟩, hcap, hbig⟩, hO0.trP (hF.mono fun k _ hk => by dsimp only at hk; exact ⟨by omega, by rw [hk]; exact ha⟩)⟩
     rw [ha, hlen]
     exact Lib.run_unsafeString_row _ _ _ _ 5 (by kernel_rfl) (by kernel_rfl) g m hsh l hl hm hbig fun j x hj => hcells j (byteV x) (by rw [List.getElem?_map, hj]; rfl)
end
def printP (c : Ch) : List UInt8 × Int :=
 if chOk c = true then (if 16384 < (putLs [] (chL c)).length then ([], 2) else if (parseC (putLs [] (chL c))).2.1 ≠ 0 then ([], 22) else (putLs [] (chL c), 0)) else ([], 22)
def szVs : List Vr -> Nat
 | [] => 0
 | v :: l => (v.n.length + 1) + szVs l
theorem szVs_mem {v : Vr} : ∀ {l : List Vr}, v ∈ l -> v.n.length + 1 <= szVs l
 | [], h => by simp at h
 | x :: l, h => by
  rw [szVs]
  rcases List.mem_cons.1 h with rfl | h
  · omega
  · have := szVs_mem h; omega
theorem szVs_len : ∀ l : List Vr, l.length <= szVs l
 | [] => Nat.zero_le _
 | v :: l => by
  have := szVs_len l
  rw [szVs, List.length_cons]
  omega
def vrOk (v : Vr) : Bool := nameM v.n && decide (v.v ≠ -9223372036854775808)
theorem chOk_eq (c : Ch) : ((((((decide (c.root.b.k = 1) && decide (c.root.b.dft = [])) && decide (c.vars.length <= 16)) && decide (nNd c.root <= 64)) && decide (nMv c.root <= 200)) && nameM c.root.b.nm) && (c.vars.all vrOk && bdOk c.root.b c.root.kids 1) && decide (nAc c.root <= 400)) = chOk c := by
 obtain ⟨vars, ⟨b, l⟩⟩ := c
 unfold chOk
 show ((((((decide (b.k = 1) && decide (b.dft = [])) && decide (vars.length <= 16)) && decide (nNd (.mk b l) <= 64)) && decide (nMv (.mk b l) <= 200)) && nameM b.nm) && (vars.all vrOk && bdOk b l 1) && decide (nAc (.mk b l) <= 400)) = (vars.all vrOk && ndOk 0 (.mk b l) && decide (b.k = 1 /\ vars.length <= 16 /\ nNd (.mk b l) <= 64 /\ nMv (.mk b l) <= 200 /\ nAc (.mk b l) <= 400))
 by_cases hk : b.k = 1
 · rw [<- node_st (d := 0) (.inl hk) (by decide)]
   have : decide (b.k = 1 /\ vars.length <= 16 /\ nNd (.mk b l) <= 64 /\ nMv (.mk b l) <= 200 /\ nAc (.mk b l) <= 400) = (decide (vars.length <= 16) && decide (nNd (.mk b l) <= 64) && decide (nMv (.mk b l) <= 200) && decide (nAc (.mk b l) <= 400)) := by
    rw [Bool.eq_iff_iff]
    simp [hk, and_assoc]
   rw [this, decide_eq_true hk]
   generalize decide (b.dft = []) = A
   generalize decide (vars.length <= 16) = B
   generalize decide (nNd (.mk b l) <= 64) = C
   generalize decide (nMv (.mk b l) <= 200) = D
   generalize decide (nAc (.mk b l) <= 400) = E
   generalize nameM b.nm = G
   generalize vars.all vrOk = H
   show _ = (H && ((A && G) && bdOk b l (0 + 1)) && (B && C && D && E))
   generalize bdOk b l (0 + 1) = I
   cases A <;> cases B <;> cases C <;> cases D <;> cases E <;> cases G <;> cases H <;> cases I <;> rfl
 · have : decide (b.k = 1 /\ vars.length <= 16 /\ nNd (.mk b l) <= 64 /\ nMv (.mk b l) <= 200 /\ nAc (.mk b l) <= 400) = false := decide_eq_false fun h => hk h.1
   rw [this, decide_eq_false hk]
   simp
theorem print_c {w : World} {F : Nat -> Prop} {D : Nat} {c : Ch} {vs : Sl} {cs : List Value} (hx : ChR false D w F c vs cs) (hn : chN c) (hs : szVs c.vars + szN c.root <= 8388608) (hE : Er w) (hT : Tb w) :
  Calls Tryz.prog 12 #[.agg (vs.v :: cs).toArray] w fun e w' => e = .returned (.tuple #[.string (T (printP c).1), .int .i64 (printP c).2]) /\ Only [] w w' := by
 obtain ⟨vars, ⟨bb, ks⟩⟩ := c
 cases D with
 | zero => exact hx.root.elim
 | succ D =>
 have hroot : rNd false (D + 1) w F (.mk bb ks) cs := hx.root
 have hroot0 := (rNd_ok false _).inHeap hroot
 have hvs : SliceF rVr 3 w F vs vars := hx.vars.1
 obtain ⟨en, lv, mv, kids, rfl, hnb, hkids⟩ := hroot0
 have hnb : NbR false w (fun k => F k /\ k < w.heap.size) bb en lv mv := hnb
 have hkids : SlG false (rNd false D) 9 27 w (fun k => F k /\ k < w.heap.size) kids ks := hkids
 have hr := hn.r
 have hr : ndN (.mk bb ks) := hr
 have hvn : ∀ v, v ∈ vars -> InI v.v := hn.v
 rw [ndN] at hr
 have hs : szVs vars + szN (.mk bb ks) <= 8388608 := hs
 have hsN : szN (.mk bb ks) = szB bb + szNs ks := by rw [szN]
 have hs0 := hs
 rw [hsN] at hs0
 unfold szB at hs0
 have hchk := chOk_eq ⟨vars, .mk bb ks⟩
 generalize hP : printP ⟨vars, .mk bb ks⟩ = P
 unfold printP at hP
 rw [<- hchk] at hP
 clear hchk
 have hP : (if ((((((decide (bb.k = 1) && decide (bb.dft = [])) && decide (vars.length <= 16)) && decide (nNd (.mk bb ks) <= 64)) && decide (nMv (.mk bb ks) <= 200)) && nameM bb.nm) && (vars.all vrOk && bdOk bb ks 1) && decide (nAc (.mk bb ks) <= 400)) = true then (if 16384 < (putLs [] (chL ⟨vars, .mk bb ks⟩)).length then ([], 2) else if (parseC (putLs [] (chL ⟨vars, .mk bb ks⟩))).2.1 ≠ 0 then ([], 22) else (putLs [] (chL ⟨vars, .mk bb ks⟩), 0)) else ([], 22)) = P := hP
 show Calls Tryz.prog 12 #[.agg (vs.v :: ndv bb.k bb.nm bb.ini bb.dft en lv mv kids bb.a).toArray] w _
 refine ret (v42w vs bb.k (T bb.nm) (T bb.ini) (T bb.dft) en lv mv kids bb.a (fun v w' => v = .tuple #[.string (T P.1), .int .i64 P.2] /\ Only [] w w') w ?_)
 unfold v42v
 intro k0 b w1 hk0 hk0' hb hb' hO1
 have hvl := hvs.len
 have hvz := szVs_len vars
 refine (sizes_c (D + 1) w1 F (.mk bb ks) _ ((rNd_ok false _).keep hroot fun k _ hlt => hO1.block k hlt (by simp)) (by omega)).mono ?_
 rintro _ w2 ⟨rfl, hO2⟩
 have z2 := hO2.size
 refine ⟨_, _, rfl, hO2.same (by simp; omega), fun hB2 hne => ?_⟩
 have q2 : Qz w b w2 [] (false, 0) := ⟨hO1.tr0 hO2, hb, ⟨none, Sl.nil, .inl rfl, hB2, .inl ⟨rfl, rfl⟩⟩, fun _ => ⟨Int.le_refl 0, by decide⟩, Nat.zero_le _⟩
 have t2 : Zq false w w2 b w2 [] (false, 0) [k0] := ⟨q2, Mw.refl _ _ _, fun k hk => by
  simp only [List.mem_singleton] at hk
  subst hk
  exact ⟨by omega, hne, fun h => by have := bu_sl hB2 h; cases this⟩⟩
 have hF : ∀ k, (fun k => F k /\ k < w.heap.size) k -> k < w.heap.size := fun k hk => hk.2
 have hw := q2.o
 rw [show ByteArray.mk #[] = T [] from rfl, T_eq, hvl]
 refine (pmust_c t2.toQz _).mono ?_
 rintro _ w3 ⟨rfl, st3, u1, u2, u3⟩
 have t3 := t2.nx u2 u3.up
 have hc3 : ((((bb.k == 1) && decide (bb.dft = [])) && decide ((vars.length : Int) <= 16)) && decide ((nNd (.mk bb ks) : Int) <= 64) && decide ((nMv (.mk bb ks) : Int) <= 200)) = ((((decide (bb.k = 1) && decide (bb.dft = [])) && decide (vars.length <= 16)) && decide (nNd (.mk bb ks) <= 64)) && decide (nMv (.mk bb ks) <= 200)) := by
  rw [Bool.eq_iff_iff]
  simp only [Bool.and_eq_true, beq_iff_eq, decide_eq_true_eq]
  constructor
  · rintro ⟨⟨⟨⟨a1, a2⟩, a3⟩, a4⟩, a5⟩
    exact ⟨⟨⟨⟨a1, a2⟩, by omega⟩, by omega⟩, by omega⟩
  · rintro ⟨⟨⟨⟨a1, a2⟩, a3⟩, a4⟩, a5⟩
    exact ⟨⟨⟨⟨a1, a2⟩, by omega⟩, by omega⟩, by omega⟩
 rw [hc3] at u1
 obtain ⟨q3a, q3b, _, hB3, _⟩ := t3.ex
 refine ⟨rfl, t2.sm u3 (by simp), q3a, q3b, _, _, hB3, (pname_c t3.toQz bb.nm (by omega)).mono ?_⟩
 rintro _ w4 ⟨rfl, st4, v1, v2, v3⟩
 have t4 := t3.nx v2 v3.up
 obtain ⟨q4a, q4b, _, hB4, _⟩ := t4.ex
 have hjl := joinM_len [wChart, bb.nm, [123]]
 simp only [List.map_cons, List.map_nil, List.sum_cons, List.sum_nil, List.length_cons, List.length_nil] at hjl
 have hwc : wChart.length = 5 := rfl
 obtain ⟨q5, w5, e5, hO5, hj5⟩ := lineB t4.toQz [wChart, bb.nm, [123]] (n := 3) (parts := #[.mk 0 (.string (T wChart)), .mk 1 (.string (T bb.nm)), .mk 2 (.string (T [123]))]) rfl rfl (by decide) (by decide) 0 (by decide) (by omega)
 refine ⟨_, rfl, t3.sm v3 (by simp), q4a, q4b, _, _, hB4, q5, w5, e5, ?_, hj5.mono ?_⟩
 · refine hO5.same fun x hx => ⟨?_, by simp⟩
   simp only [List.mem_cons, List.not_mem_nil, or_false] at hx
   rcases hx with rfl | rfl
   · exact (t4.k x (by simp)).1
   · exact t4.toQz.lb
 rintro _ w6 ⟨rfl, x1, x2⟩
 have t6 := t4.nx x1 x2
 have hU6 := u1.tr v1
 have hl6 : st4.1 = false -> (if st4.1 then ([] : List UInt8) else putL [] (0, joinM [wChart, bb.nm, [123]])) = putLs [] [(0, wChart ++ 32 :: (bb.nm ++ [32, 123]))] := fun e => by
  rw [e]
  simp only [Bool.false_eq_true, if_false]
  rw [putLs_one, join2 (by decide), fl_cons (name_ne (v1.ok e).2.1), fl_cons (by rfl), List.filter_nil, jt_cons, jt_cons, jt_nil]
  rfl
 generalize (if st4.1 then ([] : List UInt8) else putL [] (0, joinM [wChart, bb.nm, [123]])) = l6 at *
 obtain ⟨q6a, q6b, _, hB6, _⟩ := t6.ex
 refine ⟨rfl, t4.sl hO5 x2 (by simp), q6a, q6b, _, _, hB6, fun nv i q l' wr ac w' => ∃ (j : Nat) (st' : St) (l' : List UInt8), i = j /\ j <= vars.length /\ nv = vars.length - j /\ Up st4 ((vars.take j).all vrOk) 0 st' /\ (st'.1 = false -> l' = putLs l6 ((vars.take j).map fun v => (1, vrT v))) /\ Zq false w w2 b w' l' st' [k0],
  vars.length, ⟨0, st4, l6, rfl, Nat.zero_le _, rfl, t6.toQz.up0, fun _ => rfl, t6⟩, ?_⟩
 rintro nv _ qa la wr ac w7 ⟨j, st7, l7, rfl, hj, rfl, hU7, hl7, t7⟩
 refine ⟨fun hc => ?_, fun hc => ?_⟩
 · have hlt : (j : Int) < vars.length := of_decide_eq_true hc
   obtain ⟨ad, v, cs, g1, g2, g3, g4, g5, g6⟩ := (SliceF.only rVr_ok (by decide) hvs t7.o (by simp)).get (Int.natCast_nonneg j) (by omega)
   rw [Int.toNat_natCast] at g2
   have hvm := List.mem_of_getElem? g2
   have hvz := szVs_mem hvm
   have htk : vars.take (j + 1) = vars.take j ++ [v] := by
    rw [List.take_add_one, g2]
    rfl
   unfold rVr at g6
   subst g6
   refine ⟨ad, g1, _, _, _, g5, fun k4 w8 hk4 hk4' hO8 _ => ?_⟩
   have t8 := t7.al hO8 hk4 hk4'
   refine (pmust_c t8.toQz _).mono ?_
   rintro _ w9 ⟨rfl, st9, y1, y2, y3⟩
   have t9 := t8.nx y2 y3.up
   obtain ⟨q9a, q9b, _, hB9, _⟩ := t9.ex
   refine ⟨rfl, t8.sm y3 (by simp), q9a, q9b, _, _, hB9, fun w10 hO10 _ => ⟨fun k => k ∈ [k4], by simp, ?_⟩⟩
   have t10 := t9.q hO10
   refine (pname_c t10.toQz v.n (by omega)).mono ?_
   rintro _ w11 ⟨rfl, st11, y4, y5, y6⟩
   have t11 := t10.nx y5 y6.up
   obtain ⟨q11a, q11b, _, hB11, _⟩ := t11.ex
   refine ⟨_, rfl, t10.sm y6 (by simp), q11a, q11b, _, _, hB11, Keeps.of (t10.sm y6 (by simp)), (ctext_c v.v (hvn v hvm) (hT.only t11.o)).mono ?_⟩
   rintro _ w12 ⟨rfl, hO12⟩
   have t12 := t11.q hO12
   obtain ⟨q12a, q12b, _, hB12, _⟩ := t12.ex
   have hil := itoa_len (hvn v hvm)
   have hjl := joinM_len [wVar, v.n, [61], Lib.itoa v.v ++ [59]]
   simp only [List.map_cons, List.map_nil, List.sum_cons, List.sum_nil, List.length_cons, List.length_nil, List.length_append] at hjl
   have hwv : wVar.length = 3 := rfl
   obtain ⟨q13, w13, e13, hO13, hj13⟩ := lineB t12.toQz [wVar, v.n, [61], Lib.itoa v.v ++ [59]] (n := 4) (parts := #[.mk 0 (.string (T wVar)), .mk 1 (.string (T v.n)), .mk 2 (.string (T [61])), .mk 3 (.string (T (Lib.itoa v.v ++ [59])))]) rfl rfl (by decide) (by decide) 1 (by decide) (by omega)
   refine ⟨T (Lib.itoa v.v), rfl, t11.sq hO12 (by simp), q12a, q12b, _, _, hB12, Keeps.of (t11.sq hO12 (by simp)), by rw [T_size]; omega, q13, w13, by rw [show ByteArray.mk #[59] = T [59] from rfl, T_app]; exact e13, ?_, Keeps.of (t12.sq hO13 (by simp)), hj13.mono ?_⟩
   · refine hO13.same fun x hx => ⟨?_, by simp⟩
     simp only [List.mem_cons, List.not_mem_nil, or_false] at hx
     rcases hx with rfl | rfl | rfl
     · exact (t12.k x (by simp)).1
     · exact t12.toQz.lb
     · exact (t12.k x (by simp)).1
   rintro _ w14 ⟨rfl, y7, y8⟩
   have t14 := t12.nx y7 y8
   obtain ⟨q14a, q14b, _, hB14, _⟩ := t14.ex
   refine ⟨rfl, t12.sl hO13 y8 (by simp), q14a, q14b, _, _, hB14, Keeps.of (t12.sl hO13 y8 (by simp)), vars.length - (j + 1), by omega, j + 1, st11, _, by rw [wr' (by omega) (by omega)]; rfl, by omega, rfl, ((hU7.tr y1).tr y4).cg ?_ rfl, fun e => ?_, ⟨t14.toQz, t14.m, fun k hk => t14.k k (by simp at hk; simp [hk])⟩⟩
   · rw [htk, List.all_append]
     have : (v.v != -9223372036854775808) = decide (v.v ≠ -9223372036854775808) := by rw [Bool.eq_iff_iff]; simp
     rw [this]
     unfold vrOk
     simp only [List.all_cons, List.all_nil, Bool.and_true]
     rw [Bool.and_assoc, Bool.and_comm (decide _) (nameM _)]
   · have hne2 : ne (Lib.itoa v.v ++ [59]) = true := by
      have : Lib.itoa v.v ++ [59] ≠ [] := by simp
      unfold ne
      rw [decide_eq_false this]
      rfl
     rw [e]
     simp only [Bool.false_eq_true, if_false]
     rw [hl7 (y1.ok (y4.ok e).1).1, htk, List.map_append, putLs_app, join2 (by decide), fl_cons (name_ne (y4.ok e).2.1), fl_cons (by rfl), fl_cons hne2, List.filter_nil, jt_cons, jt_cons, jt_cons, jt_nil, List.append_nil]
     rfl
 have hge : ¬ (j : Int) < vars.length := of_decide_eq_false hc
 have hje : j = vars.length := by omega
 subst hje
 rw [List.take_of_length_le (Nat.le_refl _)] at hU7 hl7
 refine (body_c (pnode_c D) t7.toQz (hnb.keep fun k hk _ => t7.o.block k hk.2 (by simp)) (hkids.keep (rNd_ok false D) (by decide) fun k hk _ => t7.o.block k hk.2 (by simp)) hF hr.1 hr.2 (by omega) 1 (by decide) hE hT).mono ?_
 rintro _ w8 ⟨rfl, st8, l8, hU8, hl8, y1, y2⟩
 have t8 := t7.nx y1 y2
 obtain ⟨q8a, q8b, _, hB8, _⟩ := t8.ex
 obtain ⟨q9, w9, e9, hO9, hj9⟩ := lineB t8.toQz [[125]] (n := 1) (parts := #[.mk 0 (.string (T [125]))]) rfl rfl (by decide) (by decide) 0 (by decide) (by decide)
 refine ⟨rfl, t7.sm y2 (by simp), q8a, q8b, _, _, hB8, q9, w9, e9, ?_, hj9.mono ?_⟩
 · refine hO9.same fun x hx => ⟨?_, by simp⟩
   simp only [List.mem_cons, List.not_mem_nil, or_false] at hx
   rcases hx with rfl | rfl
   · exact (t8.k x (by simp)).1
   · exact t8.toQz.lb
 rintro _ w10 ⟨rfl, x3, x4⟩
 have t10 := t8.nx x3 x4
 have hU := hU6.tr (hU7.tr hU8)
 have hlF : st8.1 = false -> (if st8.1 then l8 else putL l8 (0, joinM [[125]])) = putLs [] (chL ⟨vars, .mk bb ks⟩) := fun e => by
  obtain ⟨e7, _⟩ := hU8.ok e
  obtain ⟨e4, _⟩ := hU7.ok e7
  rw [e]
  simp only [Bool.false_eq_true, if_false]
  rw [hl8 e, hl7 e7, hl6 e4]
  have e1 : joinM [[125]] = [125] := by decide
  rw [e1, <- putLs_one, <- putLs_app, <- putLs_app, <- putLs_app]
  unfold chL
  rw [List.append_assoc (nbL 1 bb)]
  exact rfl
 generalize (if st8.1 then l8 else putL l8 (0, joinM [[125]])) = lF at *
 obtain ⟨q10a, q10b, _, hB10, _⟩ := t10.ex
 have hcond : ((((((decide (bb.k = 1) && decide (bb.dft = [])) && decide (vars.length <= 16)) && decide (nNd (.mk bb ks) <= 64)) && decide (nMv (.mk bb ks) <= 200)) && nameM bb.nm) && (vars.all vrOk && bdOk bb ks 1) && decide (nAc (.mk bb ks) <= 400)) = !st8.1 := by
  have h1 := hU.w
  have e400 : decide (400 < (0 : Int) + ((0 + 0 + (0 + (nbA bb + nAcs ks)) : Nat) : Int)) = !decide (nAc (.mk bb ks) <= 400) := by
   rw [nAc]
   by_cases h4 : nbA bb + nAcs ks <= 400
   · rw [decide_eq_true h4, decide_eq_false (by omega)]; rfl
   · rw [decide_eq_false h4, decide_eq_true (by omega)]; rfl
  have h1 : st8.1 = ((false || !((((((decide (bb.k = 1) && decide (bb.dft = [])) && decide (vars.length <= 16)) && decide (nNd (.mk bb ks) <= 64)) && decide (nMv (.mk bb ks) <= 200)) && nameM bb.nm) && (vars.all vrOk && bdOk bb ks 1))) || decide (400 < (0 : Int) + ((0 + 0 + (0 + (nbA bb + nAcs ks)) : Nat) : Int))) := h1
  rw [e400] at h1
  rw [h1]
  generalize ((((((decide (bb.k = 1) && decide (bb.dft = [])) && decide (vars.length <= 16)) && decide (nNd (.mk bb ks) <= 64)) && decide (nMv (.mk bb ks) <= 200)) && nameM bb.nm) && (vars.all vrOk && bdOk bb ks 1)) = A
  generalize decide (nAc (.mk bb ks) <= 400) = B
  cases A <;> cases B <;> rfl
 rw [hcond] at hP
 have fin : ∀ {w' : World}, Only [] w2 w' -> Only [] w w' := fun h => hw.tr0 h
 have o10 : Only [] w w10 := t10.o
 refine ⟨rfl, t8.sl hO9 x4 (by simp), q10a, q10b, _, _, hB10, fun e => ?_, fun e => (pwide_c t10.toQz).mono ?_⟩
 · rw [if_neg (by rw [e]; decide)] at hP
   subst hP
   exact ⟨rfl, o10⟩
 rw [if_pos (by rw [e]; rfl), <- hlF e] at hP
 rintro _ _ ⟨rfl, rfl⟩
 obtain ⟨slP, hPt, hPb⟩ := t10.toQz.pt
 have hbu := fun k hk => t10.toQz.bu (hPb k hk)
 refine ⟨_, rfl, fun _ _ => rfl, q10a, q10b, _, _, hB10, fun e2 => ?_, fun e2 => (ppstr_c hPt).mono ?_⟩
 · rw [if_pos (of_decide_eq_true e2)] at hP
   subst hP
   exact ⟨rfl, o10⟩
 rw [if_neg (of_decide_eq_false e2)] at hP
 rintro _ w11 ⟨rfl, hPt11, hO11⟩
 have z11 := hO11.size
 have hlb := t10.toQz.lb
 have k0h := t10.k k0 (by simp)
 have ko : ∀ k, (b < k /\ slP.a = some ⟨k, 0, none⟩) -> w.heap.size <= k := fun k hk => by have := t10.lo; omega
 have o11 : Only [] w w11 := (o10.trP hO11).only ko
 obtain ⟨q11, hB11⟩ := hPt11.blk
 refine ⟨_, rfl, hO11.same fun x hx => ?_, q11, slP, _, _, hB11, (sparse_c _ (hE.only o11)).mono ?_⟩
 · simp only [List.mem_singleton] at hx
   subst hx
   exact ⟨k0h.1, fun h => k0h.2.2 (hPb _ h.2)⟩
 rintro _ w12 ⟨vsx, csx, rfl, hC, hO12⟩
 obtain ⟨xe, xl, xm, xk, rfl, _⟩ := hC.root
 have hPt12 := hPt11.only hO12
 obtain ⟨q12, hB12⟩ := hPt12.blk
 have o12 := o11.tr0 hO12
 have z12 := hO12.size
 refine ⟨vsx, _, _, _, _, xe, xl, xm, xk, _, _, _, rfl, hO12.same (by simp; omega), q12, slP, _, _, hB12, fun e3 k6 k7 w13 _ _ _ _ hO13 _ => ?_, fun e3 k8 k9 w14 hk8 hk8' hk9 hk9' hO14 _ => ?_⟩
 · rw [if_pos (by simpa using e3)] at hP
   subst hP
   exact ⟨rfl, o12.tr0 hO13⟩
 · rw [if_neg (by simpa using e3)] at hP
   subst hP
   refine (ppstr_c (hPt12.only hO14)).mono ?_
   rintro _ w15 ⟨rfl, hPt15, hO15⟩
   obtain ⟨q15, hB15⟩ := hPt15.blk
   have z14 := hO14.size
   refine ⟨_, rfl, hO15.same fun x hx => ?_, q15, slP, _, _, hB15, rfl, ((o12.tr0 hO14).trP hO15).only ko⟩
   simp only [List.mem_cons, List.not_mem_nil, or_false] at hx
   rcases hx with rfl | rfl | rfl
   · exact ⟨by omega, fun h => k0h.2.2 (hPb _ h.2)⟩
   · exact ⟨hk8', fun h => by have := (hbu _ h.2).2; omega⟩
   · exact ⟨hk9', fun h => by have := (hbu _ h.2).2; omega⟩
def inB (n : Int) : Bool := decide (-9223372036854775808 <= n /\ n <= 9223372036854775807)
theorem inB_t {n : Int} (h : inB n = true) : InI n := by
 have h := of_decide_eq_true h
 exact ⟨h.1, h.2⟩
mutual
def nXb : Ex -> Bool
 | .mk _ n _ _ l _ => inB n && nXLb l
def nXLb : List Ex -> Bool
 | [] => true
 | x :: l => nXb x && nXLb l
end
theorem nXL_mem {y : Ex} : ∀ {l : List Ex}, nXLb l = true -> y ∈ l -> nXb y = true
 | [], _, h => by simp at h
 | x :: l, h, hy => by
  rw [nXLb, Bool.and_eq_true] at h
  rcases List.mem_cons.1 hy with rfl | hy
  · exact h.1
  · exact nXL_mem h.2 hy
theorem nX_t : ∀ (d : Nat) {x : Ex}, nXb x = true -> numOk d x
 | 0, _, _ => trivial
 | d + 1, .mk k n s op l a, h => by
  rw [nXb, Bool.and_eq_true] at h
  exact ⟨inB_t h.1, fun y hy => nX_t d (nXL_mem h.2 hy)⟩
def nAb (a : Ac) : Bool := nXb a.x
def nMb (m : Mv) : Bool := nXb m.g && m.acts.all nAb && inB m.wt
def nNb (b : Nb) : Bool := b.en.all nAb && b.lv.all nAb && b.mv.all nMb
mutual
def nDb : Nd -> Bool
 | .mk b l => nNb b && nDLb l
def nDLb : List Nd -> Bool
 | [] => true
 | x :: l => nDb x && nDLb l
end
theorem nAs_t {l : List Ac} (h : l.all nAb = true) : ∀ a, a ∈ l -> acN a := fun a ha d => nX_t d ((List.all_eq_true.1 h) a ha)
theorem nM_t {m : Mv} (h : nMb m = true) : mvN m := by
 unfold nMb at h
 simp only [Bool.and_eq_true] at h
 exact ⟨fun d => nX_t d h.1.1, nAs_t h.1.2, inB_t h.2⟩
theorem nN_t {b : Nb} (h : nNb b = true) : nbN b := by
 unfold nNb at h
 simp only [Bool.and_eq_true] at h
 exact ⟨nAs_t h.1.1, nAs_t h.1.2, fun m hm => nM_t ((List.all_eq_true.1 h.2) m hm)⟩
mutual
theorem nD_t : ∀ (x : Nd), nDb x = true -> ndN x
 | .mk b l, h => by
  rw [nDb, Bool.and_eq_true] at h
  rw [ndN]
  exact ⟨nN_t h.1, nDL_t l h.2⟩
theorem nDL_t : ∀ (l : List Nd), nDLb l = true -> ndsN l
 | [], _ => by rw [ndsN]; trivial
 | x :: l, h => by
  rw [nDLb, Bool.and_eq_true] at h
  rw [ndsN]
  exact ⟨nD_t x h.1, nDL_t l h.2⟩
end
def nCb (c : Ch) : Bool := (c.vars.all fun v => inB v.v) && nDb c.root
theorem nC_t {c : Ch} (h : nCb c = true) : chN c := by
 unfold nCb at h
 simp only [Bool.and_eq_true] at h
 exact ⟨fun v hv => inB_t ((List.all_eq_true.1 h.1) v hv), nD_t _ h.2⟩
def szOk (c : Ch) : Bool := decide (szVs c.vars + szN c.root <= 8388608)
theorem ChR.off {d : Nat} {w : World} {F : Nat -> Prop} {c : Ch} {vs : Sl} {cs : List Value} (h : ChR true d w F c vs cs) : ChR false d w F c vs cs := ⟨h.vars.off fun _ _ _ h => h, rNd_off h.root⟩
end Go.Proofs.YtndkfaaeeojeiaaGreatDoor.Con
namespace Go.Proofs.YtndkfaaeeojeiaaGreatDoor.Con
open Go Go.RowKit Go.Kt Go.Kt.V Go.Proofs.YtndkfaaeeojeiaaGreatDoor.Vc
set_option linter.unusedSimpArgs false
set_option linter.unusedVariables false
set_option maxHeartbeats 4000000
set_option maxRecDepth 100000
def spv (x : Spo) : List Value := [.int .i64 x.k, .string (T x.nm), .int .i64 x.pa, .int .i64 x.dp, .int .i64 x.en]
def rSp : Rp Spo := fun _ _ x cs => cs = spv x
theorem rSp_ok : rSp.Ok := ⟨fun h _ => h, fun h => h, fun h _ => h, fun h => by
  unfold rSp spv at h
  subst h
  intro v hv
  simp only [List.mem_cons, List.not_mem_nil, or_false] at hv
  rcases hv with rfl | rfl | rfl | rfl | rfl <;> rfl⟩
abbrev OwnSp (B : Nat) (w : World) (s : Sl) (xs : List Spo) : Prop := Own rSp 5 47 B w (fun _ => False) s xs
theorem OwnSp.of {B : Nat} {w : World} {F : Nat -> Prop} {s : Sl} {xs : List Spo} (h : Own rSp 5 47 B w F s xs) : OwnSp B w s xs := by
 rcases h with ⟨rfl, rfl⟩ | ⟨g, css, tail, h1, h2, h4, h5, h6, h7, h9, h8⟩
 · exact .inl ⟨rfl, rfl⟩
 · exact .inr ⟨g, css, tail, h1, h2, h4, h5, h6, h7, h9, All2.impM (fun x c _ hc => hc) h8⟩
theorem OwnSp.keepP {B : Nat} {w w' : World} {G : Nat -> Prop} {s : Sl} {xs : List Spo} (h : OwnSp B w s xs) (hO : OnlyP G w w') (hG : ∀ k, B <= k -> s.a = some ⟨k, 0, none⟩ -> ¬ G k) : OwnSp B w' s xs :=
 h.keep rSp_ok fun k hk hlt => hO.block k hlt (hk.elim (fun h => h.elim) fun h => hG k h.1 h.2)
theorem lay_c (t : Bool) : ∀ (D : Nat) {w : World} {F : Nat -> Prop} {x : Nd} {cs : List Value} {b : Nat} {s : Sl} {xs : List Spo} {pa dp : Int}, rNd t D w F x cs -> (∀ k, F k -> k < b) -> Blk w b 105 [s.v] -> OwnSp (b + 1) w s xs ->
  xs.length + nNd x <= 1000000 -> 0 <= dp -> dp + nNd x <= 1000000 ->
  Calls Tryz.prog 51 #[.pointer (some ⟨b, 0, none⟩), .agg cs.toArray, .int .i64 pa, .int .i64 dp] w fun e w' => e = .returned (.tuple #[]) /\ ∃ s', Blk w' b 105 [s'.v] /\ OwnSp (b + 1) w' s' (xs ++ flN xs.length pa dp x) /\ Mvd b s w s' w'
 | 0, _, _, _, _, _, _, _, _, _, h, _, _, _, _, _, _ => h.elim
 | D + 1, w, F, .mk bb ks, cs, b, s, xs, pa, dp, ⟨en, lv, mv, kids, hcs, _, hk0⟩, hF, hB, hS, hn, h0, hd => by
  have hk := hk0.1
  clear hk0
  dsimp only [Nd.kids, Nd.b] at hk hcs
  subst hcs
  rw [nNd] at hn hd
  have hkl := hk.len
  have hnn := nNds_len ks
  refine ret (v31w ⟨b, 0, none⟩ bb.k (T bb.nm) (T bb.ini) (T bb.dft) en lv mv kids bb.a pa dp (fun v w' => v = .tuple #[] /\ ∃ s', Blk w' b 105 [s'.v] /\ OwnSp (b + 1) w' s' (xs ++ flN xs.length pa dp (.mk bb ks)) /\ Mvd b s w s' w') w ?_)
  unfold v31v
  intro k0 w0 hk0 hk0' hO0
  have z0 := hO0.size
  have hbl := hB.lt
  have cell : ∀ {u : World} {q : Sl}, Blk u b 105 [q.v] -> Cells u ((⟨b, 0, none⟩ : Addr).add 0) [q.v] := fun h => h.cells 0 [_] fun j v hj => by rw [Nat.zero_add]; exact hj
  have hB0 := hO0.blk hB (by simp)
  refine ⟨s, cell hB0, fun w1 hO1 => ⟨fun k => k = b, rfl, s, cell (hO1.blk hB0 (by simp)), ?_⟩⟩
  have o1 := hO0.tr0 hO1
  have z1 := hO1.size
  have hS1 : OwnSp (b + 1) w1 s xs := hS.keepP o1.p0 fun _ _ _ h => h
  have hB1 := o1.blk hB (by simp)
  obtain ⟨y, w2, k1, k3, s3, w3, g1, g2, ⟨gs, g3, g4⟩, g5⟩ := app_one (P := Tryz.prog) (t := 103) (ty := 103) (e := 47) (i := Tryz.t47) (bytes := 48) (size := 5) (r := rSp) (G := fun _ => False) (v := .agg #[.int .i64 bb.k, .string (T bb.nm), .int .i64 pa, .int .i64 dp, .int .i64 0]) (x := ⟨bb.k, bb.nm, pa, dp, 0⟩) (by kernel_rfl) (by kernel_rfl) rfl rfl rfl rfl (by decide) (by decide) (by decide) rSp_ok hS1 (by omega) rfl rfl (fun _ h => h.elim) (by omega)
  have z2 := k3.size
  have z3 := g3.size
  have gb : ∀ g, g ∈ gs -> g ≠ b /\ g < w1.heap.size /\ s.a = some ⟨g, 0, none⟩ := fun g hg => ⟨by have := (g4 g hg).2.1; omega, (g4 g hg).2.2, (g4 g hg).1⟩
  have hk0s : s.a ≠ some ⟨k0, 0, none⟩ := fun e => by have := (hS.blk e).2; dsimp only at this; omega
  have hB3 : Blk w3 b 105 [s.v] := g3.blk (k3.blk hB1 (by simp)) fun h => (gb b h).1 rfl
  refine ⟨y, w2, k1, k3.same (by simp; omega), Keeps.only k3, s3, w3, g1, g3.same fun x hx => ?_, fun k hk hlt => ?_, b, 0, _, _, rfl, hB3, Nat.le_refl 1, by omega, fun w4 hO4 hB4 => ?_⟩
  · simp only [List.mem_singleton] at hx
    subst hx
    exact ⟨by omega, fun h => hk0s (gb _ h).2.2⟩
  · subst hk
    exact g3.block _ hlt fun h => (gb _ h).1 rfl
  have z4 := hO4.size
  have hS3 : OwnSp (b + 1) w3 s3 (xs ++ [⟨bb.k, bb.nm, pa, dp, 0⟩]) := OwnSp.of g2
  have hS4 : OwnSp (b + 1) w4 s3 (xs ++ [⟨bb.k, bb.nm, pa, dp, 0⟩]) := hS3.keepP (G := fun k => k = b) (hO4.p (by simp)) fun k h _ => by omega
  have m4 : Mvd b s w s3 w4 := by
   refine ⟨((o1.tr0 k3).trP (g3.p (F := fun k => k = b ∨ s.a = some ⟨k, 0, none⟩) fun g hg => .inl (.inr (gb g hg).2.2))).trans (hO4.p (F := fun k => k = b ∨ s.a = some ⟨k, 0, none⟩) (by simp)) fun k hk => .inl hk, fun k hk => ?_⟩
   rcases g5 with e | ⟨g, e, h⟩
   · exact .inl (by rw [<- e]; exact hk)
   · rw [e] at hk
     injection hk with hk
     injection hk with hk
     exact .inr (by omega)
  have n4 : ∀ k, s3.a = some ⟨k, 0, none⟩ -> k ≠ k0 := fun k hk e => by
   subst e
   rcases g5 with e | ⟨g, e, h⟩
   · exact hk0s (by rw [<- e]; exact hk)
   · rw [e] at hk
     injection hk with hk
     injection hk with hk
     omega
  have hk' : ∀ {u : World} {q : Sl}, Mvd b s w q u -> SliceF (rNd t D) 9 u F kids ks := fun hm => SliceF.onlyP (rNd_ok t D) (by decide) hk hm.1 fun k hFk _ => by
   have := hF k hFk
   exact fun h => h.elim (by omega) fun h => by have := (hS.blk h).1; dsimp only at this; omega
  refine ⟨fun kv i w' => ∃ (j : Nat) (q : Sl), i = (j : Int) /\ kv + j = ks.length /\ j <= ks.length /\ Blk w' b 105 [q.v] /\ OwnSp (b + 1) w' q (xs ++ ⟨bb.k, bb.nm, pa, dp, 0⟩ :: flL (xs.length + 1) xs.length (dp + 1) (ks.take j)) /\ Mvd b s w q w' /\ w4.heap.size <= w'.heap.size /\ ∀ k, q.a = some ⟨k, 0, none⟩ -> k ≠ k0, ks.length, ⟨0, s3, rfl, by omega, Nat.zero_le _, hB4, by rw [List.take_zero, flL]; exact hS4, m4, Nat.le_refl _, n4⟩, ?_⟩
  rintro kv _ w5 ⟨j, q, rfl, hkv, hjl, hB5, hS5, m5, z5, n5⟩
  have hln : s.n = xs.length := hS.len
  constructor
  · intro hc
    have hj : j < ks.length := by have := of_decide_eq_true hc; omega
    obtain ⟨y, hy⟩ : ∃ y, ks[j]? = some y := ⟨_, List.getElem?_eq_getElem hj⟩
    obtain ⟨ad, y', ds, a1, a2, a3, a4, a5, a6⟩ := (hk' m5).get (Int.natCast_nonneg j) (by omega)
    rw [Int.toNat_natCast, hy] at a2
    injection a2 with a2
    subst a2
    have a6' := a6
    obtain ⟨D', rfl⟩ : ∃ D', D = D' + 1 := by
     cases D with
     | zero => exact a6.elim
     | succ D' => exact ⟨D', rfl⟩
    obtain ⟨en', lv', mv', kids', rfl, _⟩ := a6'
    have hle := nNds_take hy
    have hx1 : (xs ++ ⟨bb.k, bb.nm, pa, dp, 0⟩ :: flL (xs.length + 1) xs.length (dp + 1) (ks.take j)).length = xs.length + 1 + nNds (ks.take j) := by
     rw [List.length_append, List.length_cons, flL_len]; omega
    refine ⟨ad, a1, _, _, _, _, en', lv', mv', kids', _, a5, fun k6 w6 hk6 hk6' hO6 => ?_⟩
    have z6 := hO6.size
    have m6 : Mvd b s w q w6 := m5.trans (Mvd.only hO6)
    rw [wr' (by omega) (by omega), hln]
    refine (lay_c t (D' + 1) (pa := ((xs.length : Nat) : Int)) ((rNd_ok t (D' + 1)).keep a6 fun k _ hlt => hO6.block k hlt (by simp)) (s := q) (xs := xs ++ ⟨bb.k, bb.nm, pa, dp, 0⟩ :: flL (xs.length + 1) xs.length (dp + 1) (ks.take j)) (b := b) (dp := dp + 1) hF (hO6.blk hB5 (by simp)) (hS5.keepP hO6.p0 fun _ _ _ h => h) (by rw [hx1]; omega) (by omega) (by omega)).mono ?_
    rintro _ w7 ⟨rfl, q7, hB7, hS7, m7⟩
    have z7 := m7.1.size
    refine ⟨rfl, m7.1.same fun x hx => ?_, kv - 1, by omega, j + 1, q7, by rw [wr' (by omega) (by omega)]; rfl, by omega, by omega, hB7, ?_, m6.trans m7, by omega, fun k hk e => ?_⟩
    · simp only [List.mem_cons, List.not_mem_nil, or_false] at hx
      rcases hx with rfl | rfl
      · exact ⟨by omega, fun h => h.elim (by omega) fun h => n5 _ h rfl⟩
      · refine ⟨hk6', fun h => h.elim (by omega) fun h => ?_⟩
        have := (hS5.blk h).2
        dsimp only at this
        omega
    · have e : ks.take (j + 1) = ks.take j ++ [y] := by rw [List.take_add_one, hy]; rfl
      rw [e, flL_app, flL, flL, List.append_nil]
      rw [hx1, List.append_assoc, List.cons_append] at hS7
      exact hS7
    · subst e
      rcases m7.2 _ hk with h | h
      · exact n5 _ h rfl
      · omega
  · intro hc w8 hO8
    have hje : j = ks.length := by have := of_decide_eq_false hc; omega
    subst hje
    rw [List.take_of_length_le (Nat.le_refl _)] at hS5
    have hB8 := hO8.blk hB5 (by simp)
    have hS8 : OwnSp (b + 1) w8 q _ := hS5.keepP hO8.p0 fun _ _ _ h => h
    have z8 := hO8.size
    have hat : (xs ++ ⟨bb.k, bb.nm, pa, dp, 0⟩ :: flL (xs.length + 1) xs.length (dp + 1) ks)[xs.length]? = some ⟨bb.k, bb.nm, pa, dp, 0⟩ := by
     rw [List.getElem?_append_right (Nat.le_refl _), Nat.sub_self]; rfl
    obtain ⟨g, cells, cs', p1, p2, p3, p4, p5, p6, p7⟩ := Own.set1 rSp_ok hS8 hat
    have hcs' : cs' = spv ⟨bb.k, bb.nm, pa, dp, 0⟩ := p6
    subst hcs'
    have hql : q.n = xs.length + 1 + nNds ks := by rw [hS5.len, List.length_append, List.length_cons, flL_len]; omega
    obtain ⟨p8, p9⟩ := p7 4 (.int .i64 (q.n : Int)) ⟨bb.k, bb.nm, pa, dp, (q.n : Int)⟩ (fun _ => False) (by decide) rfl fun _ h => h.elim
    rw [<- hln] at p2
    have hgb := (hS5.blk p1).1
    dsimp only at hgb
    refine ⟨q, cell hB8, q, cell hB8, _, p2, g, xs.length * 5 + 4, cells, _, by rw [addr_lit, hln], p3, by rw [<- hln] at p8 ⊢; exact p8, fun e => n5 g p1 e.symm, fun w9 hO9 hB9 => ⟨rfl, q, hO9.blk hB8 (by simp; omega), ?_, ?_⟩⟩
    · have := p9 w9 hO9 hB9
      rw [List.set_append_right _ _ (Nat.le_refl _), Nat.sub_self, List.set_cons_zero] at this
      rw [flN]
      have e : (q.n : Int) = ((xs.length + 1 + nNds ks : Nat) : Int) := by rw [hql]
      rw [e] at this
      exact this
    · refine (m5.trans (Mvd.only hO8)).trans ⟨hO9.p fun k hk => ?_, fun k hk => .inl hk⟩
      simp only [List.mem_singleton] at hk
      subst hk
      exact .inl (.inr p1)
theorem right_c {w : World} {F : Nat -> Prop} {D : Nat} {c : Ch} {vs : Sl} {cs : List Value} (hx : ChR false (D + 1) w F c vs cs) (hn : chN c) (hs : szVs c.vars + szN c.root <= 8388608) (hE : Er w) (hT : Tb w) :
  Calls Tryz.prog 16 #[.agg (vs.v :: cs).toArray] w fun e w' => e = .returned (.int .i64 (printP c).2) /\ Only [] w w' := by
 obtain ⟨en, lv, mv, kids, rfl, _⟩ := hx.root
 refine ret (v43w vs c.root.b.k (T c.root.b.nm) (T c.root.b.ini) (T c.root.b.dft) en lv mv kids c.root.b.a (fun v w' => v = .int .i64 (printP c).2 /\ Only [] w w') w ?_)
 unfold v43v
 intro k0 w0 hk0 hk0' hO0
 have hx0 : ChR false (D + 1) w0 F c vs (ndv c.root.b.k c.root.b.nm c.root.b.ini c.root.b.dft en lv mv kids c.root.b.a) := ⟨hx.vars.keep rVr_ok (by decide) fun k _ hlt => hO0.block k hlt (by simp), (rNd_ok false _).keep hx.root fun k _ hlt => hO0.block k hlt (by simp)⟩
 refine (print_c hx0 hn hs (hE.only hO0) (hT.only hO0)).mono ?_
 rintro _ w1 ⟨rfl, hO1⟩
 exact ⟨_, _, rfl, hO1.same (by simp; omega), rfl, hO0.tr0 hO1⟩
theorem printP_nd {c : Ch} (h : (printP c).2 = 0) : nNd c.root <= 64 := by
 unfold printP at h
 by_cases h1 : chOk c = true
 · unfold chOk at h1
   simp only [Bool.and_eq_true] at h1
   exact (of_decide_eq_true h1.2).2.2.1
 · rw [if_neg h1] at h; exact absurd h (by decide)
theorem flat_c {w : World} {F : Nat -> Prop} {D : Nat} {c : Ch} {vs : Sl} {cs : List Value} (hx : ChR false (D + 1) w F c vs cs) (hn : chN c) (hs : szVs c.vars + szN c.root <= 8388608) (hE : Er w) (hT : Tb w) :
  Calls Tryz.prog 19 #[.agg (vs.v :: cs).toArray] w fun e w' => (∃ s, e = .returned (.tuple #[Sl.v s, .int .i64 (printP c).2]) /\ ((printP c).2 = 0 -> OwnSp w.heap.size w' s (flatC c)) /\ ((printP c).2 ≠ 0 -> s = Sl.nil)) /\ Only [] w w' := by
 obtain ⟨en, lv, mv, kids, hcs, _⟩ := hx.root
 subst hcs
 refine (v25w vs c.root.b.k (T c.root.b.nm) (T c.root.b.ini) (T c.root.b.dft) en lv mv kids c.root.b.a (fun v w' => (∃ s, v = .tuple #[Sl.v s, .int .i64 (printP c).2] /\ ((printP c).2 = 0 -> OwnSp w.heap.size w' s (flatC c)) /\ ((printP c).2 ≠ 0 -> s = Sl.nil)) /\ Only [] w w') w ?_).mono ?_
 · unfold v25v
   intro k0 w0 hk0 hk0' hO0
   have z0 := hO0.size
   have keep : ∀ {u : World}, Only [] w u -> ChR false (D + 1) u F c vs (ndv c.root.b.k c.root.b.nm c.root.b.ini c.root.b.dft en lv mv kids c.root.b.a) := fun hO => ⟨hx.vars.keep rVr_ok (by decide) fun k _ hlt => hO.block k hlt (by simp), (rNd_ok false _).keep hx.root fun k _ hlt => hO.block k hlt (by simp)⟩
   refine (right_c (keep hO0) hn hs (hE.only hO0) (hT.only hO0)).mono ?_
   rintro _ w1 ⟨rfl, hO1⟩
   have z1 := hO1.size
   have o1 := hO0.tr0 hO1
   refine ⟨_, rfl, hO1.same (by simp; omega), fun hc => ?_, fun hc k1 w2 hk1 hk1' hO2 hB2 => ?_⟩
   · have hc : (printP c).2 ≠ 0 := by simpa using hc
     exact ⟨⟨Sl.nil, rfl, fun h => absurd h hc, fun _ => rfl⟩, o1⟩
   have hc : (printP c).2 = 0 := by simpa using hc
   have hnd := printP_nd hc
   have o2 := o1.tr0 hO2
   have z2 := hO2.size
   have hr2 : rNd false (D + 1) w2 (fun k => k < w.heap.size) c.root (ndv c.root.b.k c.root.b.nm c.root.b.ini c.root.b.dft en lv mv kids c.root.b.a) :=
    (rNd_ok false _).keep ((rNd_ok false _).mono ((rNd_ok false _).inHeap hx.root) fun k hk => hk.2) fun k _ hlt => o2.block k hlt (by simp)
   refine (lay_c false (D + 1) (s := Sl.nil) (xs := []) (pa := -1) (dp := 0) hr2 (fun k hk => by omega) hB2 (Own.nil _ _ _ _ _ _) (by rw [List.length_nil]; omega) (by decide) (by omega)).mono ?_
   rintro _ w3 ⟨rfl, s', hB3, hS3, m3⟩
   have z3 := m3.1.size
   refine ⟨rfl, m3.1.same fun x hx => ?_, s', hB3, ⟨s', by rw [hc], fun _ => ?_, fun h => absurd hc h⟩, ?_⟩
   · simp only [List.mem_singleton] at hx
     subst hx
     exact ⟨by omega, fun h => h.elim (by omega) fun h => by cases h⟩
   · rw [List.nil_append] at hS3
     exact Own.low hS3 (by omega)
   · exact (o2.trP m3.1).only fun k hk => hk.elim (by omega) fun h => by cases h
 · rintro _ w' ⟨v, rfl, ⟨s, rfl, h1, h2⟩, h3⟩
   exact ⟨⟨s, rfl, h1, h2⟩, h3⟩
section
variable {w : World} {F : Nat -> Prop} {l : Sl} {xs : List Spo}
theorem sp_at (h : SliceF rSp 5 w F l xs) {i : Nat} {x : Spo} (hx : xs[i]? = some x) : ∃ ad, SlAt l (i : Int) 5 ad /\ Cells w ad (spv x) /\ Cells w (ad.add 2) [.int .i64 x.pa] /\ Cells w (ad.add 3) [.int .i64 x.dp] /\ Cells w (ad.add 4) [.int .i64 x.en] := by
 have hlt := (List.getElem?_eq_some_iff.1 hx).1
 have hl := h.len
 obtain ⟨ad, y, cs, g1, g2, g3, g4, g5, g6⟩ := h.get (Int.natCast_nonneg i) (by omega)
 rw [Int.toNat_natCast, hx] at g2
 injection g2 with g2
 subst g2
 have g6 : cs = spv x := g6
 subst g6
 have one : ∀ (n : Nat) (v : Value), (spv x)[n]? = some v -> Cells w (ad.add n) [v] := fun n v hv j u hu => by
  cases j with
  | zero =>
   rw [List.getElem?_cons_zero, Option.some.injEq] at hu
   subst hu
   have := g5 n v hv
   rw [addr_add, Nat.add_zero]
   exact this
  | succ j => simp at hu
 exact ⟨ad, g1, g5, one 2 _ rfl, one 3 _ rfl, one 4 _ rfl⟩
def hasB (xs : List Spo) (n : Int) : Bool := decide (n >= 0) && decide (n < (xs.length : Int))
theorem hasB_iff {n : Int} : hasB xs n = true ↔ Has xs n := by
 unfold hasB Has
 rw [Bool.and_eq_true, decide_eq_true_iff, decide_eq_true_iff]
theorem has_c (h : SliceF rSp 5 w F l xs) (n : Int) : Calls Tryz.prog 55 #[l.v, .int .i64 n] w fun e w' => e = .returned (.bool (hasB xs n)) /\ w' = w := by
 refine ret (v33w l n (fun v w' => v = .bool (hasB xs n) /\ w' = w) w ?_)
 unfold v33v
 rw [h.len]
 exact ⟨rfl, rfl⟩
noncomputable def covB (xs : List Spo) (b a : Int) : Bool := open Classical in decide (∃ i j : Nat, b = i /\ a = j /\ Cov xs i j)
theorem covB_iff {b a : Int} : covB xs b a = true ↔ ∃ i j : Nat, b = i /\ a = j /\ Cov xs i j := by
 unfold covB
 exact @decide_eq_true_iff _ (Classical.propDecidable _)
theorem covers_c (h : SliceF rSp 5 w F l xs) (hF : Fo xs) (b a : Int) : Calls Tryz.prog 56 #[l.v, .int .i64 b, .int .i64 a] w fun e w' => e = .returned (.bool (covB xs b a)) /\ w' = w := by
 refine ret (v32w l b a (fun v w' => v = .bool (covB xs b a) /\ w' = w) w ?_)
 unfold v32v
 refine ⟨fun r w' => r = covB xs b a /\ w' = w, fun r w' ⟨h1, h2⟩ => ⟨by rw [h1], h2⟩, (has_c h a).mono ?_⟩
 rintro _ _ ⟨rfl, rfl⟩
 refine ⟨_, rfl, fun ha => (has_c h b).mono ?_, fun ha => ⟨?_, rfl⟩⟩
 · rintro _ _ ⟨rfl, rfl⟩
   have ha := hasB_iff.1 ha
   by_cases hb : (hasB xs b && decide (b <= a)) = true
   · rw [Bool.and_eq_true] at hb
     have hb1 := hasB_iff.1 hb.1
     have hb2 := of_decide_eq_true hb.2
     obtain ⟨i, rfl⟩ : ∃ i : Nat, b = i := ⟨b.toNat, by have := hb1.1; omega⟩
     obtain ⟨j, rfl⟩ : ∃ j : Nat, a = j := ⟨a.toNat, by have := ha.1; omega⟩
     obtain ⟨x, hx⟩ := get_at (xs := xs) (i := i) (by have := hb1.2; omega)
     obtain ⟨ad, g1, g2, _, _, g5⟩ := sp_at h hx
     refine ⟨_, rfl, ad, fun _ => g1, x.en, fun _ => g5, ?_, rfl⟩
     rw [hb.1, hb.2, Bool.true_and, Bool.true_and, Bool.eq_iff_iff, covB_iff, decide_eq_true_iff]
     constructor
     · exact fun h => ⟨i, j, rfl, rfl, x, hx, by omega, h⟩
     · rintro ⟨i', j', e1, e2, y, hy, h1, h2⟩
       have e1 : i = i' := by omega
       subst e1
       rw [hx, Option.some.injEq] at hy
       subst hy
       omega
   · rw [Bool.not_eq_true] at hb
     refine ⟨_, rfl, ⟨0, 0, none⟩, fun h => (by rw [hb] at h; cases h), 0, fun h => (by rw [hb] at h; cases h), ?_, rfl⟩
     rw [hb, Bool.false_and, eq_comm, <- Bool.not_eq_true, covB_iff]
     rintro ⟨i, j, rfl, rfl, y, hy, h1, h2⟩
     have := get_lt hy
     rw [show hasB xs (i : Int) = true from hasB_iff.2 ⟨by omega, by omega⟩, show decide ((i : Int) <= (j : Int)) = true from decide_eq_true (by omega)] at hb
     cases hb
 · rw [eq_comm, <- Bool.not_eq_true, covB_iff]
   rintro ⟨i, j, rfl, rfl, hc⟩
   have := hF.cov_lt hc
   rw [show hasB xs (j : Int) = true from hasB_iff.2 ⟨by omega, by omega⟩] at ha
   cases ha
noncomputable def witB (xs : List Spo) (a b : Int) : Bool := open Classical in decide (∃ i j : Nat, b = i /\ a = j /\ i < j /\ Cov xs i j)
theorem witB_iff {a b : Int} : witB xs a b = true ↔ ∃ i j : Nat, b = i /\ a = j /\ i < j /\ Cov xs i j := by
 unfold witB
 exact @decide_eq_true_iff _ (Classical.propDecidable _)
theorem fwithin_c (h : SliceF rSp 5 w F l xs) (hF : Fo xs) (a b : Int) : Calls Tryz.prog 23 #[l.v, .int .i64 a, .int .i64 b] w fun e w' => e = .returned (.bool (witB xs a b)) /\ w' = w := by
 refine ret (v30w l a b (fun v w' => v = .bool (witB xs a b) /\ w' = w) w ?_)
 unfold v30v
 refine ⟨fun r w' => r = witB xs a b /\ w' = w, fun r w' ⟨h1, h2⟩ => ⟨by rw [h1], h2⟩, fun hc => (covers_c h hF b a).mono ?_, fun hc => ⟨?_, rfl⟩⟩
 · rintro _ _ ⟨rfl, rfl⟩
   have hc : a ≠ b := by simpa using hc
   refine ⟨_, rfl, ?_, rfl⟩
   rw [Bool.eq_iff_iff, covB_iff, witB_iff]
   refine ⟨fun ⟨i, j, e1, e2, hc'⟩ => ⟨i, j, e1, e2, ?_, hc'⟩, fun ⟨i, j, e1, e2, _, hc'⟩ => ⟨i, j, e1, e2, hc'⟩⟩
   obtain ⟨s, _, hle, _⟩ := hc'
   omega
 · have hc : a = b := by simpa using hc
   subst hc
   rw [eq_comm, <- Bool.not_eq_true, witB_iff]
   rintro ⟨i, j, e1, e2, hl, _⟩
   omega
abbrev OwnI (B : Nat) (w : World) (s : Sl) (l : List Int) : Prop := Own rInt 1 3 B w (fun _ => False) s l
theorem OwnI.of {B : Nat} {w : World} {F : Nat -> Prop} {s : Sl} {l : List Int} (h : Own rInt 1 3 B w F s l) : OwnI B w s l := by
 rcases h with ⟨rfl, rfl⟩ | ⟨g, css, tail, h1, h2, h4, h5, h6, h7, h9, h8⟩
 · exact .inl ⟨rfl, rfl⟩
 · exact .inr ⟨g, css, tail, h1, h2, h4, h5, h6, h7, h9, All2.impM (fun x c _ hc => hc) h8⟩
theorem addI (w0 : World) {u : World} {s : Sl} {is : List Int} (h : OwnI w0.heap.size u s is) (hO : Only [] w0 u) (n : Int) (hn : InI n) (hm : is.length <= 1000000) :
  ∃ y w1, (Instr.buildSlice 51 1 #[.mk 0 (.int .i64 n)]).run Tryz.prog u = .ok (Sl.v y) w1 /\ Only [] u w1 /\ ∃ s' w2, (Builtin.append_ #[51, 51] 51 #[Sl.v s, Sl.v y]).run Tryz.prog w1 = .ok (Sl.v s') w2 /\ OwnI w0.heap.size w2 s' (is ++ [n]) /\ Only [] w0 w2 /\ OnlyP (fun k => w0.heap.size <= k) u w2 := by
 obtain ⟨y, w1, k1, k3, s', w2, g1, g2, ⟨gs, g3, g4⟩, g5⟩ := app_one (P := Tryz.prog) (t := 51) (ty := 51) (e := 3) (i := Tryz.t3) (bytes := 8) (size := 1) (r := rInt) (G := fun _ => False) (v := .int .i64 n) (x := n) (by kernel_rfl) (by kernel_rfl) rfl rfl rfl rfl (by decide) (by decide) (by decide) rInt_ok h hO.size rfl ⟨rfl, hn⟩ (fun _ h => h.elim) (by omega)
 refine ⟨y, w1, k1, k3, s', w2, g1, OwnI.of g2, ?_, k3.trP (g3.p fun g hg => .inl (g4 g hg).2.1)⟩
 exact ((hO.tr0 k3).trP (g3.p (F := fun k => w0.heap.size <= k) fun g hg => .inl (g4 g hg).2.1)).only fun k hk => hk
theorem up_c (h : SliceF rSp 5 w F l xs) (hF : Fo xs) (n : Int) (hm : xs.length <= 1000) : Calls Tryz.prog 24 #[l.v, .int .i64 n] w fun e w' => (∃ (s : Sl) (is : List Int), e = .returned (Sl.v s) /\ OwnI w.heap.size w' s is /\ (¬ Has xs n -> is = []) /\ ∀ (k : Nat) (x : Spo), n = k -> xs[k]? = some x -> Ups xs x.pa is) /\ Only [] w w' := by
 refine (v29w l n (fun v w' => (∃ (s : Sl) (is : List Int), v = Sl.v s /\ OwnI w.heap.size w' s is /\ (¬ Has xs n -> is = []) /\ ∀ (k : Nat) (x : Spo), n = k -> xs[k]? = some x -> Ups xs x.pa is) /\ Only [] w w') w ?_).mono ?_
 · unfold v29v
   refine (has_c h n).mono ?_
   rintro _ u ⟨rfl, hu⟩
   obtain rfl : w = u := hu.symm
   refine ⟨_, rfl, fun hc => ⟨⟨Sl.nil, [], rfl, Own.nil _ _ _ _ _ _, fun _ => rfl, fun k x e hx => ?_⟩, Only.refl _ _⟩, fun hc => ?_⟩
   · subst e
     have := get_lt hx
     rw [show hasB xs (k : Int) = true from hasB_iff.2 ⟨by omega, by omega⟩] at hc
     cases hc
   have hh : Has xs n := hasB_iff.1 (by simpa using hc)
   obtain ⟨k, rfl⟩ : ∃ k : Nat, n = k := ⟨n.toNat, by have := hh.1; omega⟩
   obtain ⟨x, hx⟩ := get_at (xs := xs) (i := k) (by have := hh.2; omega)
   obtain ⟨ad, a1, _, a3, _, _⟩ := sp_at h hx
   have hp := hF.pa_lt hx
   have hkl := get_lt hx
   refine ⟨ad, a1, x.pa, a3, fun kv i q w' => ∃ is : List Int, (i < (kv : Int)) /\ is.length + kv <= xs.length + 1 /\ OwnI w.heap.size w' q is /\ (∀ us, Ups xs i us -> Ups xs x.pa (is ++ us)) /\ (i < 0 ∨ ∃ (j : Nat) (y : Spo), i = (j : Int) /\ xs[j]? = some y) /\ Only [] w w', k + 1, ⟨[], by omega, by rw [List.length_nil]; omega, Own.nil _ _ _ _ _ _, fun us hu => hu, ?_, Only.refl _ _⟩, ?_⟩
   · by_cases h0 : 0 < k
     · obtain ⟨p, y, _, e, hy, _⟩ := hF.par hx h0
       exact .inr ⟨p, y, e, hy⟩
     · have : k = 0 := by omega
       subst this
       exact .inl (by rw [(hF.rt x hx).1]; decide)
   rintro kv i q w1 ⟨is, hik, hil, hS, hus, hj, hO⟩
   refine ⟨fun hc => ?_, fun hc => ?_⟩
   · have hi0 : 0 <= i := of_decide_eq_true hc
     rcases hj with hj | ⟨j, y, rfl, hy⟩
     · omega
     obtain ⟨y1, w2, k1, k3, s', w3, g1, g2, g3, g4⟩ := addI w hS hO j ⟨by omega, by omega⟩ (by omega)
     obtain ⟨ad', b1, _, b3, _, _⟩ := sp_at (SliceF.only rSp_ok (by decide) h g3 (by simp)) hy
     have hpj := hF.pa_lt hy
     refine ⟨y1, w2, k1, s', w3, g1, ad', b1, y.pa, b3, kv - 1, by omega, is ++ [(j : Int)], by omega, by rw [List.length_append, List.length_singleton]; omega, g2, fun us hu => ?_, ?_, g3⟩
     · rw [List.append_assoc]
       exact hus _ (.go hy hu)
     · by_cases h0 : 0 < j
       · obtain ⟨p, y', _, e, hy', _⟩ := hF.par hy h0
         exact .inr ⟨p, y', e, hy'⟩
       · have : j = 0 := by omega
         subst this
         exact .inl (by rw [(hF.rt y hy).1]; decide)
   · have hi : i < 0 := by have := of_decide_eq_false hc; omega
     refine ⟨⟨q, is, rfl, hS, fun hn => absurd hh hn, fun k' x' e hx' => ?_⟩, hO⟩
     have e : k = k' := by omega
     subst e
     rw [hx, Option.some.injEq] at hx'
     subst hx'
     have := hus [] (.stop hi)
     rwa [List.append_nil] at this
 · rintro _ w' ⟨v, rfl, ⟨s, is, rfl, h1, h2, h3⟩, h4⟩
   exact ⟨⟨s, is, rfl, h1, h2, h3⟩, h4⟩
theorem kids_c (h : SliceF rSp 5 w F l xs) (hF : Fo xs) {n : Nat} {x : Spo} (hx : xs[n]? = some x) (hm : xs.length <= 1000) : Calls Tryz.prog 26 #[l.v, .int .i64 (n : Int)] w fun e w' => (∃ (s : Sl), e = .returned (Sl.v s) /\ OwnI w.heap.size w' s (kidsOf xs n xs.length)) /\ Only [] w w' := by
 refine (v26w l n (fun v w' => (∃ (s : Sl), v = Sl.v s /\ OwnI w.heap.size w' s (kidsOf xs n xs.length)) /\ Only [] w w') w ?_).mono ?_
 · unfold v26v
   refine (has_c h n).mono ?_
   rintro _ u ⟨rfl, hu⟩
   obtain rfl : w = u := hu.symm
   have hnl := get_lt hx
   have hb : hasB xs (n : Int) = true := hasB_iff.2 ⟨by omega, by omega⟩
   rw [hb]
   refine ⟨_, rfl, fun hc => (by cases hc), fun _ => ?_⟩
   have hup := hF.up n x hx
   have hen : ∃ e : Nat, x.en = e := ⟨x.en.toNat, by omega⟩
   obtain ⟨e, he⟩ := hen
   refine ⟨fun kv q i w' => ∃ k : Nat, i = (k : Int) /\ n < k /\ k <= e /\ kv + k = xs.length /\ OwnI w.heap.size w' q (kidsOf xs n k) /\ (∀ (j : Nat) u, n < j -> j < k -> xs[j]? = some u -> u.en <= (k : Int)) /\ Only [] w w', xs.length - (n + 1), ⟨n + 1, by rw [wr' (by omega) (by omega)]; rfl, by omega, by omega, by omega, by rw [hF.kid0 hx]; exact Own.nil _ _ _ _ _ _, fun j u h1 h2 => by omega, Only.refl _ _⟩, ?_⟩
   rintro kv q _ w1 ⟨k, rfl, hnk, hke, hkv, hS, hbn, hO⟩
   obtain ⟨ad, a1, _, _, _, a5⟩ := sp_at (SliceF.only rSp_ok (by decide) h hO (by simp)) hx
   refine ⟨ad, a1, x.en, a5, fun hc => ?_, fun hc => ?_⟩
   · have hc := of_decide_eq_true hc
     obtain ⟨y, hy⟩ := get_at (xs := xs) (i := k) (by omega)
     have hlen : (kidsOf xs n k).length <= k := by
      unfold kidsOf
      rw [List.length_map]
      exact Nat.le_trans (List.length_filter_le _ _) (by rw [List.length_range]; exact Nat.le_refl _)
     obtain ⟨y1, w2, k1, k3, s', w3, g1, g2, g3, g4⟩ := addI w hS hO k ⟨by omega, by omega⟩ (by omega)
     obtain ⟨ad', b1, _, _, _, b5⟩ := sp_at (SliceF.only rSp_ok (by decide) h g3 (by simp)) hy
     have hyu := hF.up k y hy
     have hye := hF.lam k hx hy hnk hc
     obtain ⟨m, hm'⟩ : ∃ m : Nat, y.en = m := ⟨y.en.toNat, by omega⟩
     refine ⟨y1, w2, k1, s', w3, g1, ad', b1, y.en, b5, kv - (m - k), by omega, m, hm', by omega, by omega, by omega, ?_, hF.kid_next hy hm' hbn, g3⟩
     rw [hF.kid_step hx hy hnk hc hm' hbn]
     exact g2
   · have hc := of_decide_eq_false hc
     have : k = e := by omega
     subst this
     exact ⟨⟨q, rfl, by rw [hF.kid_end hx he]; exact hS⟩, hO⟩
 · rintro _ w' ⟨v, rfl, ⟨s, rfl, h1⟩, h4⟩
   exact ⟨⟨s, rfl, h1⟩, h4⟩
end
end Go.Proofs.YtndkfaaeeojeiaaGreatDoor.Con
namespace Go.Proofs.YtndkfaaeeojeiaaGreatDoor.Con
open Go Go.RowKit Go.Kt Go.Kt.V Go.Proofs.YtndkfaaeeojeiaaGreatDoor.Vc
set_option linter.unusedSimpArgs false
set_option linter.unusedVariables false
set_option maxHeartbeats 800000
set_option maxRecDepth 100000
section
variable {w : World} {F G : Nat -> Prop} {l sN : Sl} {xs : List Spo} {ns : List Int}
theorem meet1_c {k0 : Nat} (h : SliceF rSp 5 w F l xs) (hB : Blk w k0 42 [l.v]) (n : Int) : Calls Tryz.prog 54 #[.int .i64 n, .pointer (some ⟨k0, 0, none⟩)] w fun e w' => e = .returned (.bool (!hasB xs n)) /\ w' = w := by
 refine ret (v27w n ⟨k0, 0, none⟩ (fun v w' => v = .bool (!hasB xs n) /\ w' = w) w ?_)
 unfold v27v
 refine ⟨l, hB.cells 0 [_] fun j v hj => (by rw [Nat.zero_add]; exact hj), (has_c h n).mono ?_⟩
 rintro _ _ ⟨rfl, rfl⟩
 exact ⟨_, rfl, rfl, rfl⟩
theorem mindex_c {k0 : Nat} (h : SliceF rSp 5 w F l xs) (hB : Blk w k0 42 [l.v]) (hN : SliceF rInt 1 w G sN ns) : Calls Tryz.prog 92 #[sN.v, .func (.func 54) #[] #[.pointer (some ⟨k0, 0, none⟩)]] w fun e w' => (∃ i : Int, e = .returned (.int .i64 i) /\ (i >= 0 ↔ ∃ n, n ∈ ns /\ ¬ Has xs n)) /\ w' = w := by
 refine (v81w sN ⟨.func (.func 54) #[] #[.pointer (some ⟨k0, 0, none⟩)], rfl⟩ (fun v w' => (∃ i : Int, v = .int .i64 i /\ (i >= 0 ↔ ∃ n, n ∈ ns /\ ¬ Has xs n)) /\ w' = w) w ?_).mono ?_
 · unfold v81v
   have hl := hN.len
   have hc0 := hN.cap
   have hb0 := hN.big
   refine ⟨fun kv i w' => ∃ j : Nat, i = (j : Int) /\ kv + j = ns.length /\ j <= ns.length /\ (∀ n, n ∈ ns.take j -> Has xs n) /\ w' = w, ns.length, ⟨0, rfl, by omega, Nat.zero_le _, fun n hn => by simp at hn, rfl⟩, ?_⟩
   rintro kv _ u ⟨j, rfl, hkv, hj, hh, hu⟩
   obtain rfl : w = u := hu.symm
   refine ⟨fun hc => ?_, fun hc => ⟨⟨-1, rfl, fun h => absurd h (by decide), fun ⟨n, hn, hb⟩ => absurd (hh n ?_) hb⟩, rfl⟩⟩
   · have hc := of_decide_eq_true hc
     obtain ⟨ad, y, cs, g1, g2, g3, g4, g5, g6⟩ := hN.get (Int.natCast_nonneg j) (by omega)
     rw [Int.toNat_natCast] at g2
     obtain ⟨rfl, hy⟩ := g6
     refine ⟨ad, g1, y, g5, 54, [], [.pointer (some ⟨k0, 0, none⟩)], rfl, fnOk_run (by kernel_rfl), (meet1_c h hB y).mono ?_⟩
     rintro _ u ⟨rfl, hu⟩
     obtain rfl : w = u := hu.symm
     refine ⟨_, rfl, fun hb => ⟨⟨j, rfl, fun _ => ⟨y, List.mem_of_getElem? g2, fun hh' => ?_⟩, fun _ => by omega⟩, rfl⟩, fun hb => ⟨kv - 1, by omega, j + 1, by rw [wr' (by omega) (by omega)]; rfl, by omega, by omega, fun n hn => ?_, rfl⟩⟩
     · rw [hasB_iff.2 hh'] at hb
       cases hb
     · rw [List.take_add_one, g2, List.mem_append] at hn
       rcases hn with hn | hn
       · exact hh n hn
       · simp only [Option.toList, List.mem_singleton] at hn
         subst hn
         exact hasB_iff.1 (by simpa using hb)
   · have hc := of_decide_eq_false hc
     rwa [List.take_of_length_le (by omega)]
 · rintro _ w' ⟨v, rfl, ⟨i, rfl, h1⟩, h2⟩
   exact ⟨⟨i, rfl, h1⟩, h2⟩
def badN (xs : List Spo) (ns : List Int) : Prop := ns = [] ∨ ∃ n, n ∈ ns /\ ¬ Has xs n
theorem meet_c (h : SliceF rSp 5 w F l xs) (hF : Fo xs) (hN : SliceF rInt 1 w G sN ns) : Calls Tryz.prog 22 #[l.v, sN.v] w fun e w' => (∃ r : Int, e = .returned (.int .i64 r) /\ Mt xs ns r) /\ Only [] w w' := by
 refine (v28w l sN (fun v w' => (∃ r : Int, v = .int .i64 r /\ Mt xs ns r) /\ Only [] w w') w ?_).mono ?_
 · unfold v28v
   intro k0 w0 hk0 hk0' hO0
   have hl := hN.len
   have hc0 := hN.cap
   have hb0 := hN.big
   have hxl := h.len
   have kL : ∀ {u : World}, Only [] w u -> SliceF rSp 5 u F l xs := fun hO => SliceF.only rSp_ok (by decide) h hO (by simp)
   have kN : ∀ {u : World}, Only [] w u -> SliceF rInt 1 u G sN ns := fun hO => SliceF.only rInt_ok (by decide) hN hO (by simp)
   refine ⟨fun b q u => (b = true ↔ badN xs ns) /\ l = q /\ Only [] w u, ?_, fun hc => ?_, fun hc hB => ?_⟩
   · rintro b _ u ⟨hb, rfl, hO⟩
     refine ⟨fun hbt => ⟨⟨-1, rfl, .inl ⟨hb.1 hbt, rfl⟩⟩, hO⟩, fun hbf => ?_⟩
     have hg : ¬ badN xs ns := fun hh => by rw [hb.2 hh] at hbf; cases hbf
     have hne : ns ≠ [] := fun e => hg (.inl e)
     have hh : ∀ n, n ∈ ns -> Has xs n := fun n hn => Classical.byContradiction fun hx => hg (.inr ⟨n, hn, hx⟩)
     have hlp : 0 < ns.length := List.length_pos_iff.2 hne
     obtain ⟨ad, n0, cs, g1, g2, g3, g4, g5, g6⟩ := (kN hO).get (i := 0) (by omega) (by omega)
     obtain ⟨rfl, _⟩ := g6
     have g2 : ns[0]? = some n0 := g2
     have hn0 := hh n0 (List.mem_of_getElem? g2)
     obtain ⟨m0, rfl⟩ : ∃ m : Nat, n0 = m := ⟨n0.toNat, by have := hn0.1; omega⟩
     have ht1 : ns.take 1 = [(m0 : Int)] := by
      cases ns with
      | nil => exact absurd rfl hne
      | cons a ns =>
       rw [List.getElem?_cons_zero, Option.some.injEq] at g2
       subst g2
       rfl
     refine ⟨ad, g1, _, g5, ⟨by omega, hc0⟩, fun kv i1 i2 q u => ∃ m j : Nat, i1 = (m : Int) /\ i2 = (j : Int) /\ kv + j = ns.length - 1 /\ j <= ns.length - 1 /\ l = q /\ Only [] w u /\ Top xs (ns.take (j + 1)) m, ns.length - 1, ⟨m0, 0, rfl, rfl, by omega, by omega, rfl, hO, ?_⟩, ?_⟩
     · rw [ht1]
       refine ⟨m0, rfl, fun n hn => ?_, fun j hj => ?_⟩
       · simp only [List.mem_singleton] at hn
         subst hn
         exact ⟨m0, rfl, hF.cov_self (by have := hn0.2; omega)⟩
       · obtain ⟨k, e, s, _, hle, _⟩ := hj m0 (by simp)
         omega
     rintro kv _ _ _ u1 ⟨m, j, rfl, rfl, hkv, hj, rfl, hO1, htop⟩
     have hcut := SliceF.cut (kN hO1) (lo := 1) (hi := sN.n) (m := sN.c) (by omega) hc0 (Nat.le_refl _) (Nat.le_refl _)
     have hcl : (sN.cut 1 sN.n sN.c 1).n = ns.length - 1 := by
      rw [hcut.len, List.length_take, List.length_drop]; omega
     refine ⟨fun hc => ?_, fun hc => ?_⟩
     · have hc := of_decide_eq_true hc
       obtain ⟨ad1, n3, cs, p1, p2, p3, p4, p5, p6⟩ := hcut.get (Int.natCast_nonneg j) (by omega)
       obtain ⟨rfl, _⟩ := p6
       rw [Int.toNat_natCast, List.getElem?_take_of_lt (by omega), List.getElem?_drop] at p2
       have p2 : ns[j + 1]? = some n3 := by rw [<- p2]; congr 1; omega
       have hn3 := hh n3 (List.mem_of_getElem? p2)
       obtain ⟨t, rfl⟩ : ∃ m : Nat, n3 = m := ⟨n3.toNat, by have := hn3.1; omega⟩
       have htk : ns.take (j + 1 + 1) = ns.take (j + 1) ++ [(t : Int)] := by rw [List.take_add_one, p2]; rfl
       obtain ⟨m', em, t1, t2⟩ := htop
       have em : m = m' := by omega
       subst em
       refine ⟨ad1, p1, _, p5, fun kv' i4 q u => ∃ m : Nat, i4 = (m : Int) /\ m = kv' /\ l = q /\ Only [] w u /\ (∀ n, n ∈ ns.take (j + 1) -> ∃ k : Nat, n = k /\ Cov xs m k) /\ ∀ j' : Nat, (∀ n, n ∈ ns.take (j + 1 + 1) -> ∃ k : Nat, n = k /\ Cov xs j' k) -> j' <= m, m, ⟨m, rfl, rfl, rfl, hO1, t1, fun j' hj' => t2 j' fun n hn => hj' n ?_⟩, ?_⟩
       · rw [htk]; exact List.mem_append_left _ hn
       rintro kv' _ _ u2 ⟨m2, rfl, rfl, rfl, hO2, q1, q2⟩
       refine (covers_c (kL hO2) hF m2 t).mono ?_
       rintro _ u3 ⟨rfl, hu⟩
       obtain rfl : u2 = u3 := hu.symm
       refine ⟨_, rfl, Same.refl _ _, fun hcv => ?_, fun hcv => ?_⟩
       · have hcv : ¬ ∃ i j : Nat, (m2 : Int) = i /\ (t : Int) = j /\ Cov xs i j := fun e => by rw [covB_iff.2 e] at hcv; cases hcv
         have htl : t < xs.length := by have := hn3.2; omega
         have hm2 : 0 < m2 := Nat.pos_of_ne_zero fun e => hcv ⟨0, t, by omega, rfl, hF.cov_root htl⟩
         have hmem0 : (m0 : Int) ∈ ns.take (j + 1) := by
          rw [List.mem_iff_getElem?]
          exact ⟨0, by rw [List.getElem?_take_of_lt (by omega)]; exact g2⟩
         have hm2l : m2 < xs.length := by
          obtain ⟨k, _, s, e, _⟩ := q1 _ hmem0
          exact get_lt e
         obtain ⟨y, hy⟩ := get_at hm2l
         obtain ⟨p, s, r1, r2, r3, r4, r5, r6⟩ := hF.par hy hm2
         obtain ⟨ad2, b1, _, b3, _, _⟩ := sp_at (kL hO2) hy
         have cpm : Cov xs p m2 := ⟨s, r3, by omega, r5⟩
         refine ⟨ad2, b1, y.pa, b3, p, r1, p, r2, rfl, rfl, hO2, fun n hn => ?_, fun j' hj' => ?_⟩
         · obtain ⟨k, e, hk⟩ := q1 n hn
           exact ⟨k, e, hF.cov_tr cpm hk⟩
         · have hle := q2 j' hj'
           have hne' : j' ≠ m2 := fun e => by
            subst e
            obtain ⟨k, e, hk⟩ := hj' t (by rw [htk]; simp)
            exact hcv ⟨j', k, rfl, e, hk⟩
           obtain ⟨k, e, hk⟩ := hj' m0 (by rw [htk]; exact List.mem_append_left _ hmem0)
           obtain ⟨k', e', hk'⟩ := q1 m0 hmem0
           have : k = k' := by omega
           subst this
           obtain ⟨s', v1, v2, v3⟩ := hF.cov_in hk hk' hle
           exact r6 j' s' v1 (by omega) v3
       · have hcv : covB xs m2 t = true := by simpa using hcv
         obtain ⟨i', t', e1, e2, hct⟩ := covB_iff.1 hcv
         have e1 : m2 = i' := by omega
         have e2 : t = t' := by omega
         subst e1 e2
         refine ⟨kv - 1, by omega, m2, j + 1, rfl, by rw [wr' (by omega) (by omega)]; rfl, by omega, by omega, rfl, hO2, m2, rfl, fun n hn => ?_, q2⟩
         rw [htk, List.mem_append] at hn
         rcases hn with hn | hn
         · exact q1 n hn
         · simp only [List.mem_singleton] at hn
           subst hn
           exact ⟨t, rfl, hct⟩
     · have hc := of_decide_eq_false hc
       rw [List.take_of_length_le (by omega)] at htop
       exact ⟨⟨m, rfl, .inr ⟨⟨hne, hh⟩, htop⟩⟩, hO1⟩
   · have hc : (sN.n : Int) = 0 := by simpa using hc
     exact ⟨⟨fun _ => .inl (List.eq_nil_of_length_eq_zero (by omega)), fun _ => rfl⟩, rfl, hO0⟩
   · have hc : ¬ (sN.n : Int) = 0 := by simpa using hc
     refine (v75w sN ⟨.func (.func 54) #[] #[.pointer (some ⟨k0, 0, none⟩)], rfl⟩ (fun v w' => (∃ b : Bool, v = .bool b /\ (b = true ↔ ∃ n, n ∈ ns /\ ¬ Has xs n)) /\ w' = w0) w0 ?_).mono ?_
     · unfold v75v
       refine (mindex_c (kL hO0) hB (kN hO0)).mono ?_
       rintro _ u ⟨⟨i, rfl, hi⟩, hu⟩
       obtain rfl : w0 = u := hu.symm
       exact ⟨i, rfl, ⟨_, rfl, by rw [decide_eq_true_iff]; exact hi⟩, rfl⟩
     · rintro _ u ⟨v, rfl, ⟨b, rfl, hb⟩, hu⟩
       obtain rfl : w0 = u := hu.symm
       refine ⟨b, rfl, l, hB, ⟨fun h => .inr (hb.1 h), fun h => ?_⟩, rfl, hO0⟩
       rcases h with h | h
       · subst h
         exact absurd (by rw [hl]; rfl) hc
       · exact hb.2 h
 · rintro _ w' ⟨v, rfl, ⟨r, rfl, h1⟩, h2⟩
   exact ⟨⟨r, rfl, h1⟩, h2⟩
end
theorem lit2 (u : World) {a b : Int} (ha : InI a) (hb : InI b) : ∃ y w1, (Instr.buildSlice 51 2 #[.mk 0 (.int .i64 a), .mk 1 (.int .i64 b)]).run Tryz.prog u = .ok (Sl.v y) w1 /\ Only [] u w1 /\ SliceF rInt 1 w1 (fun _ => True) y [a, b] := by
 obtain ⟨y, w1, k1, k2, k3, _⟩ := build_own (P := Tryz.prog) (t := 51) (e := 3) (i := Tryz.t3) (z := .int .i64 0) (w := u) (F := fun _ => False) (vs := [.int .i64 a, .int .i64 b]) (parts := #[.mk 0 (.int .i64 a), .mk 1 (.int .i64 b)]) (len := 2) (xs := [a, b]) (r := rInt) (size := 1) (by kernel_rfl) (by kernel_rfl) rfl rfl (by decide) rfl rfl (by decide) (by decide) rInt_ok ⟨⟨rfl, rfl, ha⟩, ⟨rfl, rfl, hb⟩, trivial⟩
 exact ⟨y, w1, k1, k3, (k2.slice rInt_ok).mono rInt_ok fun _ _ => trivial⟩
theorem lit3 (u : World) {a b d : Int} (ha : InI a) (hb : InI b) (hd : InI d) : ∃ y w1, (Instr.buildSlice 51 3 #[.mk 0 (.int .i64 a), .mk 1 (.int .i64 b), .mk 2 (.int .i64 d)]).run Tryz.prog u = .ok (Sl.v y) w1 /\ Only [] u w1 /\ SliceF rInt 1 w1 (fun _ => True) y [a, b, d] := by
 obtain ⟨y, w1, k1, k2, k3, _⟩ := build_own (P := Tryz.prog) (t := 51) (e := 3) (i := Tryz.t3) (z := .int .i64 0) (w := u) (F := fun _ => False) (vs := [.int .i64 a, .int .i64 b, .int .i64 d]) (parts := #[.mk 0 (.int .i64 a), .mk 1 (.int .i64 b), .mk 2 (.int .i64 d)]) (len := 3) (xs := [a, b, d]) (r := rInt) (size := 1) (by kernel_rfl) (by kernel_rfl) rfl rfl (by decide) rfl rfl (by decide) (by decide) rInt_ok ⟨⟨rfl, rfl, ha⟩, ⟨rfl, rfl, hb⟩, ⟨rfl, rfl, hd⟩, trivial⟩
 exact ⟨y, w1, k1, k3, (k2.slice rInt_ok).mono rInt_ok fun _ _ => trivial⟩
theorem lit4 (u : World) {a b d e : Int} (ha : InI a) (hb : InI b) (hd : InI d) (he : InI e) : ∃ y w1, (Instr.buildSlice 51 4 #[.mk 0 (.int .i64 a), .mk 1 (.int .i64 b), .mk 2 (.int .i64 d), .mk 3 (.int .i64 e)]).run Tryz.prog u = .ok (Sl.v y) w1 /\ Only [] u w1 /\ SliceF rInt 1 w1 (fun _ => True) y [a, b, d, e] := by
 obtain ⟨y, w1, k1, k2, k3, _⟩ := build_own (P := Tryz.prog) (t := 51) (e := 3) (i := Tryz.t3) (z := .int .i64 0) (w := u) (F := fun _ => False) (vs := [.int .i64 a, .int .i64 b, .int .i64 d, .int .i64 e]) (parts := #[.mk 0 (.int .i64 a), .mk 1 (.int .i64 b), .mk 2 (.int .i64 d), .mk 3 (.int .i64 e)]) (len := 4) (xs := [a, b, d, e]) (r := rInt) (size := 1) (by kernel_rfl) (by kernel_rfl) rfl rfl (by decide) rfl rfl (by decide) (by decide) rInt_ok ⟨⟨rfl, rfl, ha⟩, ⟨rfl, rfl, hb⟩, ⟨rfl, rfl, hd⟩, ⟨rfl, rfl, he⟩, trivial⟩
 exact ⟨y, w1, k1, k3, (k2.slice rInt_ok).mono rInt_ok fun _ _ => trivial⟩
theorem OwnSp.sl {B : Nat} {w : World} {s : Sl} {xs : List Spo} (h : OwnSp B w s xs) : SliceF rSp 5 w (fun k => B <= k) s xs := (h.slice rSp_ok).mono rSp_ok fun k hk => hk.elim (fun h => h.elim) fun h => h.1
def small9 : List UInt8 := [99, 104, 97, 114, 116, 32, 99, 32, 123, 32, 105, 110, 105, 116, 105, 97, 108, 32, 97, 59, 32, 115, 116, 97, 116, 101, 32, 97, 32, 123, 32, 105, 110, 105, 116, 105, 97, 108, 32, 98, 59, 32, 115, 116, 97, 116, 101, 32, 98, 32, 123, 32, 125, 32, 115, 116, 97, 116, 101, 32, 100, 32, 123, 32, 125, 32, 125, 32, 112, 97, 114, 97, 108, 108, 101, 108, 32, 112, 32, 123, 32, 115, 116, 97, 116, 101, 32, 113, 32, 123, 32, 125, 32, 115, 116, 97, 116, 101, 32, 114, 32, 123, 32, 125, 32, 125, 32, 125]
def tup (x : Spo) : Int × List UInt8 × Int × Int × Int := (x.k, x.nm, x.pa, x.dp, x.en)
def eqT (x : Option (Int × List UInt8 × Int × Int × Int)) (k : Int) (n : List UInt8) (p d e : Int) : Bool := match x with
 | some (k', n', p', d', e') => (decide (k' = k) && decide (n' = n)) && (decide (p' = p /\ d' = d /\ e' = e))
 | none => false
theorem eqT_ok {x : Option (Int × List UInt8 × Int × Int × Int)} {k : Int} {n : List UInt8} {p d e : Int} (h : eqT x k n p d e = true) : x = some (k, n, p, d, e) := by
 unfold eqT at h
 split at h
 · simp only [Bool.and_eq_true] at h
   obtain ⟨⟨h1, h2⟩, h3⟩ := h
   obtain ⟨h3, h4, h5⟩ := of_decide_eq_true h3
   rw [of_decide_eq_true h1, of_decide_eq_true h2, h3, h4, h5]
 · cases h
def sm9 : Bool := ((decide ((parseC small9).2.1 = 0 /\ (printP (parseC small9).1).2 = 0 /\ ((flatC (parseC small9).1).map tup).length = 7) && eqT (((flatC (parseC small9).1).map tup)[4]?) 2 [112] 0 1 7 && eqT (((flatC (parseC small9).1).map tup)[1]?) 1 [97] 0 1 4 && eqT (((flatC (parseC small9).1).map tup)[2]?) 1 [98] 1 2 3) && nCb (parseC small9).1) && szOk (parseC small9).1
theorem sm9_ok : sm9 = true := by kernel_rfl
theorem tup_get {xs : List Spo} {i : Nat} {a : Int} {b : List UInt8} {c d e : Int} (h : (xs.map tup)[i]? = some (a, b, c, d, e)) : xs[i]? = some ⟨a, b, c, d, e⟩ := by
 rw [List.getElem?_map, Option.map_eq_some_iff] at h
 obtain ⟨⟨a', b', c', d', e'⟩, hx, he⟩ := h
 unfold tup at he
 simp only [Prod.mk.injEq] at he
 obtain ⟨rfl, rfl, rfl, rfl, rfl⟩ := he
 exact hx
theorem fsmall_c (w : World) (hE : Er w) (hT : Tb w) : Calls Tryz.prog 18 #[] w fun e w' => e = .returned (.bool true) /\ Only [] w w' := by
 refine ret (v41w (fun v w' => v = (.bool true) /\ Only [] w w') w ?_)
 unfold v41v
 refine (sparse_c small9 hE).mono ?_
 rintro _ w0 ⟨vs, cs, rfl, hC, hO0⟩
 have hok := sm9_ok
 unfold sm9 at hok
 simp only [Bool.and_eq_true] at hok
 obtain ⟨⟨⟨⟨⟨hok, h4⟩, h1⟩, h2⟩, hn⟩, hz⟩ := hok
 obtain ⟨hp, hq, hl7⟩ := of_decide_eq_true hok
 have hn := nC_t hn
 have hz := of_decide_eq_true hz
 rw [List.length_map] at hl7
 have h4 := tup_get (eqT_ok h4)
 have h1 := tup_get (eqT_ok h1)
 have h2 := tup_get (eqT_ok h2)
 generalize parseC small9 = P at *
 obtain ⟨xe, xl, xm, xk, rfl, _⟩ := hC.root
 have z0 := hO0.size
 refine ⟨vs, _, _, _, _, xe, xl, xm, xk, _, _, _, rfl, fun k0 k1 w1 hk0 hk0' hk1 hk1' hO1 => ?_⟩
 have z1 := hO1.size
 have o1 := hO0.tr0 hO1
 have hC1 : ChR true 15 w1 (Fr w.heap.size) P.1 vs (ndv P.1.root.b.k P.1.root.b.nm P.1.root.b.ini P.1.root.b.dft xe xl xm xk P.1.root.b.a) := ⟨hC.vars.keep rVr_ok (by decide) fun k _ hlt => hO1.block k hlt (by simp), (rNd_ok true 15).keep hC.root fun k _ hlt => hO1.block k hlt (by simp)⟩
 refine (flat_c (D := 14) hC1.off hn hz (hE.only o1) (hT.only o1)).mono ?_
 rintro _ w2 ⟨⟨s, rfl, hs, _⟩, hO2⟩
 have z2 := hO2.size
 have hs := (hs hq).sl
 have hF := fo_flat P.1
 generalize flatC P.1 = xs at *
 have hsn : s.n = 7 := by rw [hs.len, hl7]
 obtain ⟨ad, a1, a2, _⟩ := sp_at hs h4
 have o2 := o1.tr0 hO2
 refine ⟨s, _, rfl, hO2.same (by simp; omega), fun r w' => r = true /\ Only [] w w', fun r w' ⟨h, h'⟩ => ⟨by rw [h], h'⟩, ad, fun _ => a1, _, _, _, _, _, fun _ => a2, fun _ => ?_, fun hc => ?_⟩
 · obtain ⟨y, w4, k1, k2, k3⟩ := lit2 w2 (a := 2) (b := 3) ⟨by omega, by omega⟩ ⟨by omega, by omega⟩
   have z4 := k2.size
   refine ⟨y, w4, k1, k2.same (by simp; omega), (meet_c (SliceF.only rSp_ok (by decide) hs k2 (by simp)) hF k3).mono ?_⟩
   rintro _ w5 ⟨⟨r, rfl, hr⟩, hO5⟩
   have o5 := (o2.tr0 k2).tr0 hO5
   have z5 := hO5.size
   have hr : r = 1 := by
    have c12 : Cov xs 1 2 := ⟨_, h1, by omega, by decide⟩
    have c13 : Cov xs 1 3 := ⟨_, h1, by omega, by decide⟩
    refine Top.uniq (hr.good (by simp) fun n hn => ?_) (m := [2, 3]) (q := 1) ⟨1, rfl, fun n hn => ?_, fun j hj => ?_⟩ fun _ => Iff.rfl
    · simp only [List.mem_cons, List.not_mem_nil, or_false] at hn
      rcases hn with rfl | rfl
      · exact ⟨by omega, by omega⟩
      · exact ⟨by omega, by omega⟩
    · simp only [List.mem_cons, List.not_mem_nil, or_false] at hn
      rcases hn with rfl | rfl
      · exact ⟨2, rfl, c12⟩
      · exact ⟨3, rfl, c13⟩
    · obtain ⟨k, e, x, g1, g2, g3⟩ := hj 2 (by simp)
      obtain ⟨k', e', x', g1', g2', g3'⟩ := hj 3 (by simp)
      have hj2 : j ≠ 2 := fun h => by
       subst h
       rw [h2, Option.some.injEq] at g1'
       subst g1'
       dsimp only at g3'
       omega
      omega
   subst hr
   refine ⟨_, rfl, hO5.same (by simp; omega), fun _ => (fwithin_c (SliceF.only rSp_ok (by decide) hs (k2.tr0 hO5) (by simp)) hF 6 4).mono ?_, fun hc => absurd hc (by decide)⟩
   rintro _ w6 ⟨rfl, hu⟩
   obtain rfl : w5 = w6 := hu.symm
   exact ⟨_, rfl, Same.refl _ _, witB_iff.2 ⟨4, 6, rfl, rfl, by omega, _, h4, by omega, by decide⟩, o5⟩
 · exfalso
   rw [hsn, hq, hp] at hc
   revert hc
   simp only [show ByteArray.mk #[112] = T [112] from rfl, T_eq]
   decide
end Go.Proofs.YtndkfaaeeojeiaaGreatDoor.Con
namespace Go.Kt
open Go Go.RowKit Go.ChangeShapes Go.WideShapes
set_option linter.unusedSimpArgs false
set_option linter.unusedVariables false
def rPair {α β : Type} (r : Rp α) (q : Rp β) : Rp (α × β) := fun w F x cs => ∃ c d, cs = c ++ d /\ r w F x.1 c /\ q w F x.2 d
def rUnit : Rp Unit := fun _ _ _ cs => cs = []
def rBool : Rp Bool := fun _ _ b cs => cs = [.bool b]
section
variable {H : Type} {enc : TypeId × Value -> H} {P : Program}
theorem trodAll_stays (hl : laidOutB P = true) {W W' : World} {sp : Nat -> Bool} (hb : Below W.heap.size W W') : ∀ {ts : List TypeId} {vs : List Value} {ds : List (DataW H)} {ps : List MemPlace},
  (∀ t, t ∈ ts -> P.readableRec t = true /\ t < P.types.size) -> DataW.TrodAll enc P W 0 (fun _ => true) true ts vs ds ps -> (∀ x, x ∈ ps -> x.block < W.heap.size) -> (∀ x, x ∈ ps -> sp x.block = true) -> DataW.TrodAll enc P W' 0 sp true ts vs ds ps
 | [], vs, ds, ps, _, h, _, _ => by
  obtain ⟨rfl, rfl, rfl⟩ := trodAll_nil h
  exact trodAll_mk0
 | t :: ts, vs, ds, ps, hr, h, hlt, hsp => by
  obtain ⟨v, vs', d, ds', p, q, rfl, rfl, rfl, h1, h2⟩ := trodAll_cons h
  obtain ⟨r1, r2⟩ := hr t (by simp)
  exact trodAll_cons_mk (WideElems.Trod_stays hl r1 r2 h1 (fun x hx => hb.same (hlt x (by simp [hx]))) fun x hx => hsp x (by simp [hx]))
   (trodAll_stays hl hb (fun u hu => hr u (by simp [hu])) h2 (fun x hx => hlt x (by simp [hx])) fun x hx => hsp x (by simp [hx]))
theorem law_post {f : Func} {s : ChangeSpec} {fresh handsOn again : Bool} {W W' : World} {args : Array Value} {ds gs : List (DataW H)} {before : List MemPlace} {tb : TypeId}
  (hW : DataW.Whole enc P f.params.toList s.vars false W args.toList ds gs before) (hv : s.vars = [])
  (hres : (s.fn H (ds ++ gs)).results = [.lit (.bool true)]) (hargs : (s.fn H (ds ++ gs)).args = ds) (hvs : (s.fn H (ds ++ gs)).vars = [])
  (ht : f.resultTypes = #[tb]) (hu : P.underlying tb = some .bool) (hl : laidOutB P = true) (hread0 : (f.params.toList.all fun t => P.readableRec t && decide (t < P.types.size)) = true) (hO : Only [] W W') :
  s.post enc P f false fresh handsOn again W args (.bool true) W' := by
 have hb : Below W.heap.size W W' := hO.below (Nat.le_refl _) (by simp)
 have hread : ∀ t, t ∈ f.params.toList -> P.readableRec t = true /\ t < P.types.size := fun t ht => by simpa using List.all_eq_true.1 hread0 t ht
 have hlt := fun p hp => hW.lt p hp
 obtain ⟨p, q, hA, hV, rfl, hz, hn⟩ := id hW
 rw [hv] at hV
 obtain ⟨rfl, rfl⟩ := trodVars_none hV
 rw [List.append_nil] at *
 have hA' : ∀ sp : Nat -> Bool, (∀ x ∈ p, sp x.block = true) -> DataW.TrodAll enc P W' 0 sp true f.params.toList args.toList (s.fn H ds).args p := fun sp hsp => by
  rw [hargs]
  exact trodAll_stays hl hb hread hA (fun x hx => by simpa using hlt x hx) hsp
 have hV' : ∀ sp : Nat -> Bool, DataW.TrodVars enc P W' sp s.vars (s.fn H ds).vars [] := fun sp => by
  rw [hv, hvs]
  simp [DataW.TrodVars]
 have hres' : ∀ (b : Nat) (sp : Nat -> Bool) (hd : Bool), DataW.TrodAll enc P W' b sp hd f.resultTypes.toList ((Value.bool true).resultList f.resultTypes.size) (s.fn H ds).results [] := fun b sp hd => by
  rw [hres, ht]
  exact trodAll_cons_mk (shut_bool hu true) trodAll_mk0
 have hold : ∀ x ∈ p, (fun b => decide (b < W.heap.size)) x.block = true := fun x hx => by simpa using hlt x hx
 refine ⟨ds, [], p, [], p, [], hW, by simpa using hres' _ _ _, by simpa using hA' _ hold, by simpa using hV' _, World.keptBut_mono (fun x hx => ⟨hx, by simpa using hx⟩) (hb.frame (· ∈ p)), fun _ => ?_⟩
 refine ⟨ok_one ht rfl (okWide_bool_mk hu true), _, _, ([] ++ p) ++ [], ⟨[] ++ p, [], trodAll_append (hA' _ (fun _ _ => rfl)) (hres' _ _ _), hV' _, rfl, ?_, ?_⟩, ?_⟩
 · intro b off hp
   have hp : MemPlace.cell b off ∈ p := by simpa using hp
   rw [hb.frozen (p := ⟨b, off, none⟩) (hlt _ hp)]
   exact hz b off hp
 · intro ha
   cases ha
 · intro x hp _
   simpa using hp
variable {W : World} {base : Nat} {spare : Nat -> Bool} {held : Bool} {α : Type}
def Opens (enc : TypeId × Value -> H) (P : Program) (W : World) (base : Nat) (spare : Nat -> Bool) (held : Bool) (t : TypeId) (r : Rp α) : Prop :=
 ∀ (fuel : Nat) (cs : List Value) (x : DataW H × List MemPlace), DataW.trod enc P W base spare held fuel t cs = some x -> (∀ n, n ∈ x.1.weights P t -> n <= reachBytes) -> ∃ a : α, r W (fun _ => True) a cs
theorem opens_int {t : TypeId} (ht : P.underlying t = some (.int .i64)) : Opens enc P W base spare held t rInt := fun fuel cs x h _ => by
 obtain ⟨n, rfl, rfl, hw⟩ := DataW.trod_int ht h
 refine ⟨n, rfl, ?_⟩
 simpa [Lit.wf, IntKind.min, IntKind.max, IntKind.signed, IntKind.bits, InI] using hw
def rSl (r : Rp α) (size bytes : Nat) : Rp (List α) := fun w F xs cs => ∃ s : Sl, cs = [s.v] /\ SliceF r size w F s xs /\ xs.length * bytes <= 140737488351232
theorem weightsAll_mem {e : TypeId} : ∀ {l : List (DataW H)} {d : DataW H}, d ∈ l -> ∀ n, n ∈ d.weights P e -> n ∈ DataW.weightsAll P e l
 | d0 :: l, d, hd, n, hn => by
  simp only [DataW.weightsAll, List.mem_append]
  rcases List.mem_cons.1 hd with rfl | hd
  · exact .inl hn
  · exact .inr (weightsAll_mem hd n hn)
 | [], d, hd, _, _ => by simp at hd
theorem choose_list {β : Type} {p : Nat -> β -> Prop} : ∀ (n : Nat), (∀ i, i < n -> ∃ b, p i b) -> ∃ l : List β, l.length = n /\ ∀ i b, l[i]? = some b -> p i b
 | 0, _ => ⟨[], rfl, fun i b h => by simp at h⟩
 | n + 1, h => by
  obtain ⟨l, h1, h2⟩ := choose_list n fun i hi => h i (by omega)
  obtain ⟨b, hb⟩ := h n (by omega)
  refine ⟨l ++ [b], by simp [h1], fun i c hc => ?_⟩
  by_cases hi : i < l.length
  · rw [List.getElem?_append_left hi] at hc; exact h2 i c hc
  · rw [List.getElem?_append_right (by omega)] at hc
    have : i = n := by
     have := (List.getElem?_eq_some_iff.1 hc).1
     simp at this
     omega
    subst this
    simp [h1] at hc
    rw [<- hc]; exact hb
theorem Opens.map {β : Type} {t : TypeId} {r : Rp α} {q : Rp β} (h : Opens enc P W base spare held t r) (f : α -> β) (hf : ∀ a cs, r W (fun _ => True) a cs -> q W (fun _ => True) (f a) cs) : Opens enc P W base spare held t q := fun fuel cs x hx hw => by
 obtain ⟨a, ha⟩ := h fuel cs x hx hw
 exact ⟨f a, hf a cs ha⟩
theorem opens_bool {t : TypeId} (ht : P.underlying t = some .bool) : Opens enc P W base spare held t rBool := fun fuel cs x h _ => by
 obtain ⟨b, rfl, rfl⟩ := DataW.trod_bool ht h
 exact ⟨b, rfl⟩
theorem weights_of {ts : List TypeId} {ds : List (DataW H)} (h : (DataW.weightsEach P ts ds).all (· <= reachBytes) = true) (j : Nat) {t : TypeId} {d : DataW H} (ht : ts[j]? = some t) (hd : ds[j]? = some d) : ∀ n, n ∈ d.weights P t -> n <= reachBytes :=
 fun n hn => by simpa using List.all_eq_true.1 h n (DataW.weights_mem_each ht hd n hn)
end
structure IsBulk {H : Type} (B : DataW H -> Nat) : Prop where
 one : ∀ d, 1 <= B d
 sl : ∀ e s, (e.map B).sum + 1 <= B (.slice e s)
 str : ∀ b, b.length + 1 <= B (.lit (.string b))
 agg : ∀ p, (p.map B).sum + 1 <= B (.agg p)
 ptr : ∀ d, B d + 1 <= B (.ptr d)
 iface : ∀ t d, B d + 1 <= B (.iface t d)
section
variable {H : Type} {enc : TypeId × Value -> H} {P : Program} {W : World} {base : Nat} {spare : Nat -> Bool} {held : Bool} {α β : Type} {B : DataW H -> Nat}
def rStr : Rp ByteArray := fun _ _ s cs => cs = [.string s] /\ s.size <= 140737488351232
def OpensB (B : DataW H -> Nat) (enc : TypeId × Value -> H) (P : Program) (W : World) (base : Nat) (spare : Nat -> Bool) (held : Bool) (t : TypeId) (r : Rp α) (m : α -> Nat) : Prop :=
 ∀ (fuel : Nat) (cs : List Value) (x : DataW H × List MemPlace), DataW.trod enc P W base spare held fuel t cs = some x -> (∀ n, n ∈ x.1.weights P t -> n <= reachBytes) -> ∃ a : α, r W (fun _ => True) a cs /\ m a <= B x.1
theorem opensB_of (hB : IsBulk B) {t : TypeId} {r : Rp α} (h : Opens enc P W base spare held t r) : OpensB B enc P W base spare held t r fun _ => 1 := fun fuel cs x hx hw => by
 obtain ⟨a, ha⟩ := h fuel cs x hx hw
 exact ⟨a, ha, hB.one _⟩
theorem opensB_str (hB : IsBulk B) {t : TypeId} (ht : P.underlying t = some .string) : OpensB B enc P W base spare held t rStr fun s => s.size + 1 := fun fuel cs x h hw => by
 obtain ⟨s, rfl, rfl, hs⟩ := DataW.trod_string ht h
 have h1 := hw _ (by simp only [DataW.weights]; exact List.mem_cons_self)
 have e : s.data.toList.length = s.size := by rw [Array.length_toList]; rfl
 simp only [e, reachBytes] at h1
 refine ⟨s, ⟨rfl, ?_⟩, ?_⟩
 · omega
 · have := hB.str s.data.toList
   rw [e] at this
   exact this
theorem sum_le {p : α -> Nat} {g : Nat -> Nat} : ∀ {l : List α} {o : Nat}, (∀ i b, l[i]? = some b -> p b <= g (o + i)) -> (l.map p).sum <= ((List.range l.length).map fun i => g (o + i)).sum
 | [], _, _ => by simp
 | a :: l, o, h => by
  rw [List.length_cons, List.range_succ_eq_map, List.map_cons, List.map_cons, List.sum_cons, List.sum_cons, List.map_map]
  have h0 := h 0 a rfl
  have ih := sum_le (p := p) (g := g) (l := l) (o := o + 1) fun i b hb => by
   have := h (i + 1) b hb
   rw [show o + 1 + i = o + (i + 1) by omega]
   exact this
  refine Nat.add_le_add h0 (Nat.le_trans ih (Nat.le_of_eq ?_))
  congr 1
  refine List.map_congr_left fun i _ => ?_
  show g _ = g _
  congr 1
  omega
theorem opensB_slice (hB : IsBulk B) {t e : TypeId} {r : Rp α} {m : α -> Nat} {size : Nat} (ht : P.underlying t = some (.slice e)) (hs : P.cellsOf e = size) {bytes : Nat} (hb : P.bytesOf e = bytes) (he : OpensB B enc P W base spare held e r m) :
  OpensB B enc P W base spare held t (rSl r size bytes) fun xs => (xs.map m).sum + 1 := fun fuel cs x h hw => by
 subst hs
 rcases Deep.open_slice ht h with ⟨rfl, rfl⟩ | ⟨a, len, cap, mm, n, D, Pl, rfl, _, hl, hm, hmm, rfl, hel⟩
 · exact ⟨[], ⟨Sl.nil, rfl, SliceF.nil _ _ _ _, by simp⟩, hB.one _⟩
 · have hlm : len <= mm := by rw [hmm]; split <;> omega
   have hex : ∀ i, i < len -> ∃ b : α, (∃ cs', cs'.length = P.cellsOf e /\ Cells W (a.add (i * P.cellsOf e)) cs' /\ r W (fun _ => True) b cs') /\ m b <= B (D i) := fun i hi => by
    obtain ⟨cs', g1, g2⟩ := hel i (by omega)
    obtain ⟨_, g3, g4⟩ := World.cells?_some g1
    obtain ⟨b, g5, g6⟩ := he n cs' _ g2 fun k hk => hw k (by
     simp only [DataW.weights, ht, List.mem_cons, List.mem_append]
     exact .inr (.inl (weightsAll_mem (List.mem_map.2 ⟨i, List.mem_range.2 hi, rfl⟩) k hk)))
    refine ⟨b, ⟨cs', g3, fun j v hj => ?_, g5⟩, g6⟩
    rw [g4 j (by have := (List.getElem?_eq_some_iff.1 hj).1; omega)]
    exact hj
   obtain ⟨l, h1, h2⟩ := choose_list len hex
   refine ⟨l, ⟨⟨some a, len, cap⟩, rfl, ⟨h1.symm, hl, fun h => (by cases h), hm, fun j x hj => ?_⟩, ?_⟩, ?_⟩
   · obtain ⟨⟨cs', g1, g2, g3⟩, _⟩ := h2 j x hj
     exact ⟨a, cs', rfl, trivial, g1, g2, g3⟩
   · have := hw _ (by simp only [DataW.weights, ht]; exact List.mem_cons_self)
     rw [hb] at this
     simp only [List.length_map, List.length_range, reachBytes] at this
     rw [h1]
     have h3 : len * bytes <= (len + (mm - len)) * bytes := Nat.mul_le_mul_right _ (by omega)
     omega
   · have h3 := hB.sl ((List.range len).map D) ((List.range (mm - len)).map fun j => D (len + j))
     refine Nat.le_trans (Nat.succ_le_succ ?_) h3
     have h4 := sum_le (p := m) (g := fun i => B (D i)) (l := l) (o := 0) fun i b hb => by
      rw [Nat.zero_add]
      exact (h2 i b hb).2
     rw [h1] at h4
     rw [List.map_map]
     simpa [Function.comp_def] using h4
def FOpenB (B : DataW H -> Nat) (enc : TypeId × Value -> H) (P : Program) (W : World) (base : Nat) (spare : Nat -> Bool) (held : Bool) (T off : Nat) (fs : List Field) (r : Rp α) (m : α -> Nat) : Prop :=
 ∀ (n : Nat) (cs : List Value) (xs : List (DataW H × List MemPlace)), cs.length = T -> xs.length = fs.length ->
  (∀ (i : Nat) (f : Field), fs[i]? = some f -> DataW.trod enc P W base spare held n f.type ((cs.drop f.offset).take (P.cellsOf f.type)) = xs[i]?) ->
  (∀ (i : Nat) (f : Field) (x : DataW H × List MemPlace), fs[i]? = some f -> xs[i]? = some x -> ∀ k, k ∈ x.1.weights P f.type -> k <= reachBytes) -> ∃ a : α, r W (fun _ => True) a (cs.drop off) /\ m a <= (xs.map fun x => B x.1).sum
theorem foB_nil {T off : Nat} (h : T = off) : FOpenB B enc P W base spare held T off [] rUnit fun _ => 0 := fun n cs xs hl _ _ _ => ⟨(), by
 show cs.drop off = []
 exact List.drop_eq_nil_of_le (by omega), Nat.zero_le _⟩
theorem foB_cons {T off s : Nat} {f : Field} {fs : List Field} {r : Rp α} {q : Rp β} {m : α -> Nat} {m' : β -> Nat} (ho : f.offset = off) (hs : P.cellsOf f.type = s) (hr : OpensB B enc P W base spare held f.type r m) (hq : FOpenB B enc P W base spare held T (off + s) fs q m') :
  FOpenB B enc P W base spare held T off (f :: fs) (rPair r q) fun x => m x.1 + m' x.2 := fun n cs xs hl hx hf hw => by
 cases xs with
 | nil => simp at hx
 | cons x xs =>
  have h0 := hf 0 f rfl
  rw [ho, hs] at h0
  obtain ⟨a, ha, ha'⟩ := hr n _ x h0 (hw 0 f x rfl rfl)
  obtain ⟨b, hb, hb'⟩ := hq n cs xs hl (by simpa using hx) (fun i g hg => hf (i + 1) g hg) (fun i g y hg hy => hw (i + 1) g y hg hy)
  refine ⟨(a, b), ⟨_, _, by rw [<- List.drop_drop, List.take_append_drop], ha, hb⟩, ?_⟩
  rw [List.map_cons, List.sum_cons]
  exact Nat.add_le_add ha' hb'
theorem opensB_struct (hB : IsBulk B) {t : TypeId} {fs : Array Field} {T : Nat} {r : Rp α} {m : α -> Nat} (ht : P.underlying t = some (.struct fs)) (hT : P.cellsOf t = T) (hF : FOpenB B enc P W base spare held T 0 fs.toList r m) : OpensB B enc P W base spare held t r fun x => m x + 1 := fun fuel cs x h hw => by
 obtain ⟨xs, n, rfl, rfl, hl, hxl, hf⟩ := DataW.trod_struct ht h
 obtain ⟨a, ha, ha'⟩ := hF n cs xs (by omega) (by simpa using hxl) (fun i f hi => hf i f (by simpa using hi)) (fun i f x hi hx k hk => hw k (by
  simp only [DataW.weights, ht]
  refine DataW.weights_mem_each (j := i) ?_ (by rw [List.getElem?_map, hx]; rfl) k hk
  simp only [Array.toList_map, List.getElem?_map, hi]
  rfl))
 refine ⟨a, by simpa using ha, Nat.le_trans (Nat.succ_le_succ ha') ?_⟩
 have := hB.agg (xs.map (·.1))
 rwa [List.map_map] at this
theorem OpensB.map {t : TypeId} {r : Rp α} {q : Rp β} {m : α -> Nat} {m' : β -> Nat} (h : OpensB B enc P W base spare held t r m) (f : α -> β) (hf : ∀ a cs, r W (fun _ => True) a cs -> q W (fun _ => True) (f a) cs /\ m' (f a) <= m a) : OpensB B enc P W base spare held t q m' := fun fuel cs x hx hw => by
 obtain ⟨a, ha, ha'⟩ := h fuel cs x hx hw
 obtain ⟨h1, h2⟩ := hf a cs ha
 exact ⟨f a, h1, Nat.le_trans h2 ha'⟩
theorem argB_struct {t : TypeId} {fs : Array Field} {r : Rp α} {m : α -> Nat} {b0 : Nat} {v : Value} {d : DataW H} {p : List MemPlace} (ht : P.underlying t = some (.struct fs)) (hok : Value.okWide P W .any b0 t v) (h : DataW.Trod enc P W base spare held t v d p)
  (hop : OpensB B enc P W base spare held t r m) (hw : ∀ n, n ∈ d.weights P t -> n <= reachBytes) : ∃ (a : α) (cs : List Value), v = .agg cs.toArray /\ r W (fun _ => True) a cs /\ m a <= B d := by
 obtain ⟨cs, rfl, _⟩ := okWide_struct ht hok
 obtain ⟨fuel, hf⟩ := h
 obtain ⟨a, ha, ha'⟩ := hop fuel _ _ hf hw
 exact ⟨a, cs.toList, by simp, ha, ha'⟩
theorem sum_one : ∀ l : List α, (l.map fun _ => 1).sum = l.length
 | [] => rfl
 | _ :: l => by rw [List.map_cons, List.sum_cons, sum_one l, List.length_cons]; omega
end
end Go.Kt
namespace Go.Proofs.YtndkfaaeeojeiaaGreatDoor.Con
open Go Go.RowKit Go.Kt Go.Kt.V Go.Proofs.YtndkfaaeeojeiaaGreatDoor.Vc Go.ChangeShapes Go.WideShapes
set_option linter.unusedSimpArgs false
set_option linter.unusedVariables false
set_option maxHeartbeats 4000000
set_option maxRecDepth 100000
theorem lift_g {D E : Type} {B : D -> Nat} {sz : E -> Nat} {Q : Nat -> E -> Prop} : ∀ (xs : List D) (o : Nat), (∀ j y, xs[j]? = some y -> ∃ e, Q (o + j) e /\ sz e <= B y) ->
  ∃ l : List E, l.length = xs.length /\ (∀ j e, l[j]? = some e -> Q (o + j) e) /\ (l.map sz).sum <= (xs.map B).sum
 | [], o, _ => ⟨[], rfl, fun j p h => by simp at h, Nat.le_refl _⟩
 | x :: xs, o, h => by
  obtain ⟨e, h1, h2⟩ := h 0 x rfl
  obtain ⟨l, h3, h4, h5⟩ := lift_g (B := B) (sz := sz) (Q := Q) xs (o + 1) fun j y hj => by
   have := h (j + 1) y hj
   rwa [Nat.add_assoc, Nat.add_comm 1 j]
  refine ⟨e :: l, by rw [List.length_cons, List.length_cons, h3], fun j p hj => ?_, ?_⟩
  · cases j with
    | zero =>
     simp only [List.getElem?_cons_zero, Option.some.injEq] at hj
     subst hj
     exact h1
    | succ j =>
     have := h4 j p hj
     rwa [Nat.add_assoc, Nat.add_comm 1 j] at this
  · rw [List.map_cons, List.sum_cons, List.map_cons, List.sum_cons]
    exact Nat.add_le_add h2 h5
theorem mem_sumN {n : Nat} : ∀ {l : List Nat}, n ∈ l -> n <= l.sum
 | [], h => by simp at h
 | x :: l, h => by
  rw [List.sum_cons]
  rcases List.mem_cons.1 h with rfl | h
  · omega
  · have := mem_sumN h; omega
theorem top_of {E : Type} (f : E -> Nat) : ∀ (l : List E), ∃ m, ∀ p, p ∈ l -> f p <= m
 | [] => ⟨0, fun p h => by simp at h⟩
 | x :: l => by
  obtain ⟨m, h⟩ := top_of f l
  refine ⟨max (f x) m, fun p hp => ?_⟩
  rcases List.mem_cons.1 hp with rfl | hp
  · exact Nat.le_max_left _ _
  · exact Nat.le_trans (h p hp) (Nat.le_max_right _ _)
theorem slMap {α β : Type} {r : Rp α} {q : Rp β} {size : Nat} {w : World} {F : Nat -> Prop} {s : Sl} {xs : List α} (f : α -> β) (h : SliceF r size w F s xs) (hf : ∀ x cs, x ∈ xs -> r w F x cs -> q w F (f x) cs) : SliceF q size w F s (xs.map f) := by
 refine ⟨by rw [List.length_map]; exact h.len, h.cap, h.nil0, h.big, fun j y hj => ?_⟩
 rw [List.getElem?_map, Option.map_eq_some_iff] at hj
 obtain ⟨x, hx, rfl⟩ := hj
 obtain ⟨bs, cs, g1, g2, g3, g4, g5⟩ := h.at_ j x hx
 exact ⟨bs, cs, g1, g2, g3, g4, hf x cs (List.mem_of_getElem? hx) g5⟩
theorem slMem {α : Type} {r : Rp α} {size : Nat} {w : World} {F : Nat -> Prop} {s : Sl} {xs : List α} (h : SliceF r size w F s xs) {x : α} (hx : x ∈ xs) : ∃ cs, r w F x cs := h.mem hx
def rXU : Rp (Ex × Nat) := fun w F x cs => rE false w F x.1 cs /\ okN x.1 /\ szX x.1 <= x.2
def rAcU : Rp (Ac × Nat) := fun w F x cs => rAc false w F x.1 cs /\ acN x.1 /\ szA x.1 <= x.2
def rMvU : Rp (Mv × Nat) := fun w F x cs => rMv false w F x.1 cs /\ mvN x.1 /\ szM x.1 <= x.2
def rVrU : Rp (Vr × Nat) := fun w F x cs => rVr w F x.1 cs /\ InI x.1.v /\ x.1.n.length + 1 <= x.2
theorem szL_sum : ∀ l : List Ex, szL l = (l.map szX).sum
 | [] => rfl
 | x :: l => by rw [szL, List.map_cons, List.sum_cons, szL_sum l]
theorem szAs_sum : ∀ l : List Ac, szAs l = (l.map szA).sum
 | [] => rfl
 | x :: l => by rw [szAs, List.map_cons, List.sum_cons, szAs_sum l]
theorem szMs_sum : ∀ l : List Mv, szMs l = (l.map szM).sum
 | [] => rfl
 | x :: l => by rw [szMs, List.map_cons, List.sum_cons, szMs_sum l]
theorem szVs_sum : ∀ l : List Vr, szVs l = (l.map fun v => v.n.length + 1).sum
 | [] => rfl
 | x :: l => by rw [szVs, List.map_cons, List.sum_cons, szVs_sum l]
theorem szNs_sum : ∀ l : List Nd, szNs l = (l.map szN).sum
 | [] => by rw [szNs]; rfl
 | x :: l => by rw [szNs, List.map_cons, List.sum_cons, szNs_sum l]
theorem sum_fst {α : Type} {f : α -> Nat} : ∀ {l : List (α × Nat)}, (∀ x, x ∈ l -> f x.1 <= x.2) -> ((l.map (·.1)).map f).sum <= (l.map fun x => x.2).sum
 | [], _ => Nat.le_refl _
 | x :: l, h => by
  rw [List.map_cons, List.map_cons, List.sum_cons, List.map_cons, List.sum_cons]
  exact Nat.add_le_add (h x (by simp)) (sum_fst fun y hy => h y (by simp [hy]))
theorem bsz (s : ByteArray) : s.data.toList.length = s.size := by rw [Array.length_toList]; rfl
section
variable {H : Type} {enc : TypeId × Value -> H} {W : World} {base : Nat} {spare : Nat -> Bool} {held : Bool} {B : DataW H -> Nat}
def rTrX (enc : TypeId × Value -> H) (W : World) (base : Nat) (spare : Nat -> Bool) (held : Bool) (t : TypeId) : Rp (DataW H) := fun _ _ x cs => ∃ fuel p, DataW.trod enc Tryz.prog W base spare held fuel t cs = some (x, p) /\ ∀ n, n ∈ x.weights Tryz.prog t -> n <= reachBytes
theorem opensB_t (hB : IsBulk B) (t : TypeId) : OpensB B enc Tryz.prog W base spare held t (rTrX enc W base spare held t) B := fun fuel cs x h hw => ⟨x.1, ⟨fuel, x.2, h, hw⟩, Nat.le_refl _⟩
theorem opens1_ex (hB : IsBulk B) : OpensB B enc Tryz.prog W base spare held 56 (rPair rInt (rPair rInt (rPair rStr (rPair rInt (rPair (rSl (rTrX enc W base spare held 56) 6 72) (rPair rInt rUnit))))))
  fun x => (1 + (1 + ((x.2.2.1.size + 1) + (1 + (((x.2.2.2.2.1.map B).sum + 1) + (1 + 0)))))) + 1 := by
 have h := opensB_struct (enc := enc) (P := Tryz.prog) (W := W) (base := base) (spare := spare) (held := held) (T := 6) hB Tryz.underlying56 (by kernel_rfl)
   (foB_cons (s := 1) rfl (by kernel_rfl) (opensB_of hB (opens_int Tryz.underlying3)) (foB_cons (s := 1) rfl (by kernel_rfl) (opensB_of hB (opens_int Tryz.underlying3)) (foB_cons (s := 1) rfl (by kernel_rfl) (opensB_str hB Tryz.underlying9) (foB_cons (s := 1) rfl (by kernel_rfl) (opensB_of hB (opens_int Tryz.underlying3)) (foB_cons (s := 1) rfl (by kernel_rfl) (opensB_slice (size := 6) (bytes := 72) hB Tryz.underlying54 (by kernel_rfl) (by kernel_rfl) (opensB_t hB _)) (foB_cons (s := 1) rfl (by kernel_rfl) (opensB_of hB (opens_int Tryz.underlying3)) (foB_nil rfl)))))))
 exact h
theorem exU_of (hB : IsBulk B) : ∀ (N : Nat) {x : DataW H} {cs : List Value} {F : Nat -> Prop}, B x <= N -> rTrX enc W base spare held 56 W F x cs -> ∃ (e : Ex) (d : Nat), rXg false d W (fun _ => True) e cs /\ okN e /\ szX e <= B x
 | 0, x, cs, F, h, _ => by have := hB.one x; omega
 | N + 1, x, cs, F, h, ⟨fuel, p, ht, hw⟩ => by
  obtain ⟨⟨k, n, s, op, xs, a, u⟩, hr, hm⟩ := opens1_ex (enc := enc) (W := W) (base := base) (spare := spare) (held := held) hB fuel cs (x, p) ht hw
  obtain ⟨c1, r1, rfl, ⟨rfl, i1⟩, c2, r2, rfl, ⟨rfl, i2⟩, c3, r3, rfl, ⟨rfl, i3⟩, c4, r4, rfl, ⟨rfl, i4⟩, c5, r5, rfl, ⟨sl, rfl, hsl, _⟩, c6, r6, rfl, ⟨rfl, i6⟩, hu⟩ := hr
  have hu : r6 = [] := hu
  subst hu
  dsimp only at hm hsl i1 i2 i3
  have hsum : ∀ y, y ∈ xs -> B y <= (xs.map B).sum := fun y hy => mem_sumN (List.mem_map_of_mem hy)
  obtain ⟨l, l1, l2, l3⟩ := lift_g (B := B) (sz := fun e : Ex × Nat => szX e.1) (Q := fun j e => ∃ base cs, sl.a = some base /\ cs.length = 6 /\ Cells W (base.add (j * 6)) cs /\ rXg false e.2 W (fun _ => True) e.1 cs /\ okN e.1) xs 0 fun j y hj => by
   rw [Nat.zero_add]
   obtain ⟨bs, ds, g1, g2, g3, g4, g5⟩ := hsl.at_ j y hj
   obtain ⟨e, d, t1, t2, t3⟩ := exU_of hB N (x := y) (by have := hsum y (List.mem_of_getElem? hj); omega) g5
   exact ⟨(e, d), ⟨bs, ds, g1, g3, g4, t1, t2⟩, t3⟩
  obtain ⟨m, hmx⟩ := top_of (fun e : Ex × Nat => e.2) l
  refine ⟨.mk k n s.data.toList op (l.map (·.1)) a, m + 1, ⟨sl, ?_, ?_, fun h => (by cases h)⟩, fun d => ?_, ?_⟩
  · have e : exv k n s.data.toList op sl a = [.int .i64 k, .int .i64 n, .string s, .int .i64 op, sl.v, .int .i64 a] := by
     show [_, _, Value.string (T s.data.toList), _, _, _] = _
     rw [<- T_of s]
    exact e.symm
  · refine ⟨by rw [Ex.subs, List.length_map, l1]; exact hsl.len, hsl.cap, hsl.nil0, hsl.big, fun j e hj => ?_⟩
    rw [Ex.subs, List.getElem?_map, Option.map_eq_some_iff] at hj
    obtain ⟨q, q1, rfl⟩ := hj
    obtain ⟨bs, ds, g1, g2, g3, g4, g5⟩ := l2 j q q1
    rw [Nat.zero_add] at g3
    exact ⟨bs, ds, g1, trivial, g2, g3, rXg_le (hmx q (List.mem_of_getElem? q1)) g4⟩
  · cases d with
    | zero => trivial
    | succ d =>
     refine ⟨i2, fun y hy => ?_⟩
     obtain ⟨q, q1, rfl⟩ := List.mem_map.1 hy
     obtain ⟨j, hj⟩ := List.getElem?_of_mem q1
     obtain ⟨bs, ds, g1, g2, g3, g4, g5⟩ := l2 j q hj
     exact g5 d
  · rw [szX_eq]
    show szL (l.map (·.1)) + (s.data.toList.length + 1) <= _
    rw [szL_sum, List.map_map, bsz]
    have e : (l.map (szX ∘ fun x => x.1)).sum = (l.map fun e : Ex × Nat => szX e.1).sum := rfl
    omega
theorem opensB_xu (hB : IsBulk B) : OpensB B enc Tryz.prog W base spare held 56 rXU fun x => x.2 := fun fuel cs x h hw => by
 obtain ⟨e, d, h1, h2, h3⟩ := exU_of hB (B x.1) (x := x.1) (F := fun _ => True) (Nat.le_refl _) ⟨fuel, x.2, h, hw⟩
 exact ⟨(e, B x.1), ⟨⟨d, h1⟩, h2, h3⟩, Nat.le_refl _⟩
theorem opensB_ac (hB : IsBulk B) : OpensB B enc Tryz.prog W base spare held 173 rAcU fun x => x.2 := by
 have h := opensB_struct (enc := enc) (P := Tryz.prog) (W := W) (base := base) (spare := spare) (held := held) (T := 9) hB Tryz.underlying173 (by kernel_rfl)
   (foB_cons (s := 1) rfl (by kernel_rfl) (opensB_of hB (opens_int Tryz.underlying3)) (foB_cons (s := 1) rfl (by kernel_rfl) (opensB_str hB Tryz.underlying9) (foB_cons (s := 6) rfl (by kernel_rfl) (opensB_xu hB) (foB_cons (s := 1) rfl (by kernel_rfl) (opensB_of hB (opens_int Tryz.underlying3)) (foB_nil rfl)))))
 refine h.map (fun x => ((⟨x.1, x.2.1.data.toList, x.2.2.1.1, x.2.2.2.1⟩ : Ac), x.2.2.1.2 + (x.2.1.size + 1))) ?_
 rintro ⟨k, n, ⟨e, m⟩, a, u⟩ cs ⟨c1, r1, rfl, ⟨rfl, i1⟩, c2, r2, rfl, ⟨rfl, i2⟩, c3, r3, rfl, ⟨he, hn, hz⟩, c4, r4, rfl, ⟨rfl, i4⟩, hu⟩
 have hu : r4 = [] := hu
 subst hu
 refine ⟨⟨⟨c3, ?_, he⟩, hn, ?_⟩, by dsimp only; omega⟩
 · show _ = _ :: Value.string (T n.data.toList) :: _
   rw [<- T_of n]
   simp
 · show szX e + (n.data.toList.length + 1) <= _
   rw [bsz]
   dsimp only at hz ⊢
   omega
theorem acs_of {w : World} {F : Nat -> Prop} {s : Sl} {xs : List (Ac × Nat)} (h : SliceF rAcU 9 w F s xs) : SlG false (rAc false) 9 173 w F s (xs.map (·.1)) /\ (∀ a, a ∈ xs.map (·.1) -> acN a) /\ szAs (xs.map (·.1)) <= (xs.map fun x => x.2).sum := by
 refine ⟨⟨slMap (·.1) h fun x cs _ hx => hx.1, fun h => (by cases h)⟩, fun a ha => ?_, ?_⟩
 · obtain ⟨x, hx, rfl⟩ := List.mem_map.1 ha
   obtain ⟨cs, hc⟩ := slMem h hx
   exact hc.2.1
 · rw [szAs_sum]
   exact sum_fst fun x hx => by
    obtain ⟨cs, hc⟩ := slMem h hx
    exact hc.2.2
theorem opensB_mv (hB : IsBulk B) : OpensB B enc Tryz.prog W base spare held 59 rMvU fun x => x.2 := by
 have h := opensB_struct (enc := enc) (P := Tryz.prog) (W := W) (base := base) (spare := spare) (held := held) (T := 13) hB Tryz.underlying59 (by kernel_rfl)
   (foB_cons (s := 1) rfl (by kernel_rfl) (opensB_of hB (opens_int Tryz.underlying3)) (foB_cons (s := 1) rfl (by kernel_rfl) (opensB_str hB Tryz.underlying9) (foB_cons (s := 1) rfl (by kernel_rfl) (opensB_of hB (opens_int Tryz.underlying3)) (foB_cons (s := 1) rfl (by kernel_rfl) (opensB_of hB (opens_bool Tryz.underlying4)) (foB_cons (s := 6) rfl (by kernel_rfl) (opensB_xu hB)
   (foB_cons (s := 1) rfl (by kernel_rfl) (opensB_slice (size := 9) (bytes := 104) hB Tryz.underlying23 (by kernel_rfl) (by kernel_rfl) (opensB_ac hB)) (foB_cons (s := 1) rfl (by kernel_rfl) (opensB_slice (size := 1) (bytes := 16) hB Tryz.underlying57 (by kernel_rfl) (by kernel_rfl) (opensB_str hB Tryz.underlying9)) (foB_cons (s := 1) rfl (by kernel_rfl) (opensB_of hB (opens_int Tryz.underlying3)) (foB_nil rfl)))))))))
 refine h.map (fun x => ((⟨x.1, x.2.1.data.toList, x.2.2.1, x.2.2.2.1, x.2.2.2.2.1.1, x.2.2.2.2.2.1.map (·.1), x.2.2.2.2.2.2.1.map fun s => s.data.toList, x.2.2.2.2.2.2.2.1⟩ : Mv), (((x.2.2.2.2.2.1.map fun x => x.2).sum + x.2.2.2.2.1.2) + ((x.2.2.2.2.2.2.1.map fun s => s.size + 1).sum + (x.2.1.size + 1))))) ?_
 rintro ⟨k, ev, wt, gd, ⟨g, m⟩, ac, tg, a, u⟩ cs ⟨c1, r1, rfl, ⟨rfl, i1⟩, c2, r2, rfl, ⟨rfl, i2⟩, c3, r3, rfl, ⟨rfl, i3⟩, c4, r4, rfl, h4, c5, r5, rfl, ⟨he, hn, hz⟩, c6, r6, rfl, ⟨asl, rfl, hac, _⟩, c7, r7, rfl, ⟨tsl, rfl, htg, _⟩, c8, r8, rfl, ⟨rfl, i8⟩, hu⟩
 have hu : r8 = [] := hu
 have h4 : c4 = [.bool gd] := h4
 subst hu h4
 obtain ⟨a1, a2, a3⟩ := acs_of hac
 have htg' : SliceF rTx 1 W (fun _ => True) tsl (tg.map fun s => s.data.toList) := slMap (fun s => s.data.toList) htg fun x cs _ hx => by
  obtain ⟨rfl, _⟩ := hx
  show _ = [Value.string (T x.data.toList)]
  rw [<- T_of x]
 refine ⟨⟨⟨c5, asl, tsl, ?_, he, a1, ⟨htg', fun h => (by cases h)⟩⟩, ⟨hn, a2, i3⟩, ?_⟩, by dsimp only; omega⟩
 · show _ = _ :: Value.string (T ev.data.toList) :: _
   rw [<- T_of ev]
   simp
 · show (szAs (ac.map (·.1)) + szX g) + (szT (tg.map fun s => s.data.toList) + (ev.data.toList.length + 1)) <= _
   have e : szT (tg.map fun s => s.data.toList) = (tg.map fun s => s.size + 1).sum := by
    unfold szT
    rw [List.map_map]
    congr 1
   rw [e, bsz]
   dsimp only at hz a3 ⊢
   omega
theorem mvs_of {w : World} {F : Nat -> Prop} {s : Sl} {xs : List (Mv × Nat)} (h : SliceF rMvU 13 w F s xs) : SlG false (rMv false) 13 59 w F s (xs.map (·.1)) /\ (∀ a, a ∈ xs.map (·.1) -> mvN a) /\ szMs (xs.map (·.1)) <= (xs.map fun x => x.2).sum := by
 refine ⟨⟨slMap (·.1) h fun x cs _ hx => hx.1, fun h => (by cases h)⟩, fun a ha => ?_, ?_⟩
 · obtain ⟨x, hx, rfl⟩ := List.mem_map.1 ha
   obtain ⟨cs, hc⟩ := slMem h hx
   exact hc.2.1
 · rw [szMs_sum]
   exact sum_fst fun x hx => by
    obtain ⟨cs, hc⟩ := slMem h hx
    exact hc.2.2
theorem opensB_vr (hB : IsBulk B) : OpensB B enc Tryz.prog W base spare held 75 rVrU fun x => x.2 := by
 have h := opensB_struct (enc := enc) (P := Tryz.prog) (W := W) (base := base) (spare := spare) (held := held) (T := 3) hB Tryz.underlying75 (by kernel_rfl)
   (foB_cons (s := 1) rfl (by kernel_rfl) (opensB_str hB Tryz.underlying9) (foB_cons (s := 1) rfl (by kernel_rfl) (opensB_of hB (opens_int Tryz.underlying3)) (foB_cons (s := 1) rfl (by kernel_rfl) (opensB_of hB (opens_int Tryz.underlying3)) (foB_nil rfl))))
 refine h.map (fun x => ((⟨x.1.data.toList, x.2.1, x.2.2.1⟩ : Vr), x.1.size + 1)) ?_
 rintro ⟨n, v, a, u⟩ cs ⟨c1, r1, rfl, ⟨rfl, i1⟩, c2, r2, rfl, ⟨rfl, i2⟩, c3, r3, rfl, ⟨rfl, i3⟩, hu⟩
 have hu : r3 = [] := hu
 subst hu
 refine ⟨⟨?_, i2, ?_⟩, by dsimp only; omega⟩
 · show _ = [Value.string (T n.data.toList), _, _]
   rw [<- T_of n]
   rfl
 · show n.data.toList.length + 1 <= _
   rw [bsz]
   exact Nat.le_refl _
theorem opens1_nd (hB : IsBulk B) : OpensB B enc Tryz.prog W base spare held 27 (rPair rInt (rPair rStr (rPair rStr (rPair rStr (rPair (rSl rAcU 9 104) (rPair (rSl rAcU 9 104) (rPair (rSl rMvU 13 168) (rPair (rSl (rTrX enc W base spare held 27) 9 160) (rPair rInt rUnit)))))))))
  fun x => (1 + ((x.2.1.size + 1) + ((x.2.2.1.size + 1) + ((x.2.2.2.1.size + 1) + (((x.2.2.2.2.1.map fun x => x.2).sum + 1) + (((x.2.2.2.2.2.1.map fun x => x.2).sum + 1) + (((x.2.2.2.2.2.2.1.map fun x => x.2).sum + 1) + (((x.2.2.2.2.2.2.2.1.map B).sum + 1) + (1 + 0))))))))) + 1 := by
 have h := opensB_struct (enc := enc) (P := Tryz.prog) (W := W) (base := base) (spare := spare) (held := held) (T := 9) hB Tryz.underlying27 (by kernel_rfl)
   (foB_cons (s := 1) rfl (by kernel_rfl) (opensB_of hB (opens_int Tryz.underlying3)) (foB_cons (s := 1) rfl (by kernel_rfl) (opensB_str hB Tryz.underlying9) (foB_cons (s := 1) rfl (by kernel_rfl) (opensB_str hB Tryz.underlying9) (foB_cons (s := 1) rfl (by kernel_rfl) (opensB_str hB Tryz.underlying9)
   (foB_cons (s := 1) rfl (by kernel_rfl) (opensB_slice (size := 9) (bytes := 104) hB Tryz.underlying23 (by kernel_rfl) (by kernel_rfl) (opensB_ac hB)) (foB_cons (s := 1) rfl (by kernel_rfl) (opensB_slice (size := 9) (bytes := 104) hB Tryz.underlying23 (by kernel_rfl) (by kernel_rfl) (opensB_ac hB))
   (foB_cons (s := 1) rfl (by kernel_rfl) (opensB_slice (size := 13) (bytes := 168) hB Tryz.underlying24 (by kernel_rfl) (by kernel_rfl) (opensB_mv hB)) (foB_cons (s := 1) rfl (by kernel_rfl) (opensB_slice (size := 9) (bytes := 160) hB Tryz.underlying25 (by kernel_rfl) (by kernel_rfl) (opensB_t hB _)) (foB_cons (s := 1) rfl (by kernel_rfl) (opensB_of hB (opens_int Tryz.underlying3)) (foB_nil rfl))))))))))
 exact h
theorem ndsN_of : ∀ {l : List Nd}, (∀ x, x ∈ l -> ndN x) -> ndsN l
 | [], _ => by rw [ndsN]; trivial
 | x :: l, h => by
  rw [ndsN]
  exact ⟨h x (by simp), ndsN_of fun y hy => h y (by simp [hy])⟩
theorem ndU_of (hB : IsBulk B) : ∀ (N : Nat) {x : DataW H} {cs : List Value} {F : Nat -> Prop}, B x <= N -> rTrX enc W base spare held 27 W F x cs -> ∃ (e : Nd) (d : Nat), rNd false d W (fun _ => True) e cs /\ ndN e /\ szN e <= B x
 | 0, x, cs, F, h, _ => by have := hB.one x; omega
 | N + 1, x, cs, F, h, ⟨fuel, p, ht, hw⟩ => by
  obtain ⟨⟨k, nm, ini, dft, en, lv, mv, xs, a, u⟩, hr, hm⟩ := opens1_nd (enc := enc) (W := W) (base := base) (spare := spare) (held := held) hB fuel cs (x, p) ht hw
  obtain ⟨c1, r1, rfl, ⟨rfl, i1⟩, c2, r2, rfl, ⟨rfl, i2⟩, c3, r3, rfl, ⟨rfl, i3⟩, c4, r4, rfl, ⟨rfl, i4⟩, c5, r5, rfl, ⟨ens, rfl, hen, _⟩, c6, r6, rfl, ⟨lvs, rfl, hlv, _⟩, c7, r7, rfl, ⟨mvs, rfl, hmv, _⟩, c8, r8, rfl, ⟨sl, rfl, hsl, _⟩, c9, r9, rfl, ⟨rfl, i9⟩, hu⟩ := hr
  have hu : r9 = [] := hu
  subst hu
  dsimp only at hm hsl hen hlv hmv
  have hsum : ∀ y, y ∈ xs -> B y <= (xs.map B).sum := fun y hy => mem_sumN (List.mem_map_of_mem hy)
  obtain ⟨l, l1, l2, l3⟩ := lift_g (B := B) (sz := fun e : Nd × Nat => szN e.1) (Q := fun j e => ∃ base cs, sl.a = some base /\ cs.length = 9 /\ Cells W (base.add (j * 9)) cs /\ rNd false e.2 W (fun _ => True) e.1 cs /\ ndN e.1) xs 0 fun j y hj => by
   rw [Nat.zero_add]
   obtain ⟨bs, ds, g1, g2, g3, g4, g5⟩ := hsl.at_ j y hj
   obtain ⟨e, d, t1, t2, t3⟩ := ndU_of hB N (x := y) (by have := hsum y (List.mem_of_getElem? hj); omega) g5
   exact ⟨(e, d), ⟨bs, ds, g1, g3, g4, t1, t2⟩, t3⟩
  obtain ⟨m, hmx⟩ := top_of (fun e : Nd × Nat => e.2) l
  obtain ⟨a1, a2, a3⟩ := acs_of hen
  obtain ⟨b1, b2, b3⟩ := acs_of hlv
  obtain ⟨d1, d2, d3⟩ := mvs_of hmv
  refine ⟨.mk ⟨k, nm.data.toList, ini.data.toList, dft.data.toList, en.map (·.1), lv.map (·.1), mv.map (·.1), a⟩ (l.map (·.1)), m + 1, ⟨ens, lvs, mvs, sl, ?_, ⟨a1, b1, d1⟩, ?_, fun h => (by cases h)⟩, ?_, ?_⟩
  · show _ = [_, Value.string (T nm.data.toList), Value.string (T ini.data.toList), Value.string (T dft.data.toList), _, _, _, _, _]
    rw [<- T_of nm, <- T_of ini, <- T_of dft]
    rfl
  · refine ⟨by rw [Nd.kids, List.length_map, l1]; exact hsl.len, hsl.cap, hsl.nil0, hsl.big, fun j e hj => ?_⟩
    rw [Nd.kids, List.getElem?_map, Option.map_eq_some_iff] at hj
    obtain ⟨q, q1, rfl⟩ := hj
    obtain ⟨bs, ds, g1, g2, g3, g4, g5⟩ := l2 j q q1
    rw [Nat.zero_add] at g3
    exact ⟨bs, ds, g1, trivial, g2, g3, rNd_le (hmx q (List.mem_of_getElem? q1)) g4⟩
  · rw [ndN]
    refine ⟨⟨a2, b2, d2⟩, ndsN_of fun y hy => ?_⟩
    obtain ⟨q, q1, rfl⟩ := List.mem_map.1 hy
    obtain ⟨j, hj⟩ := List.getElem?_of_mem q1
    obtain ⟨bs, ds, g1, g2, g3, g4, g5⟩ := l2 j q hj
    exact g5
  · rw [szN, szNs_sum, List.map_map]
    unfold szB
    dsimp only
    rw [bsz, bsz, bsz]
    have e : (l.map (szN ∘ fun x => x.1)).sum = (l.map fun e : Nd × Nat => szN e.1).sum := rfl
    omega
def rNdU : Rp (Nd × Nat) := fun w F x cs => ∃ d, rNd false d w F x.1 cs /\ ndN x.1 /\ szN x.1 <= x.2
theorem opensB_nd (hB : IsBulk B) : OpensB B enc Tryz.prog W base spare held 27 rNdU fun x => x.2 := fun fuel cs x h hw => by
 obtain ⟨e, d, h1, h2, h3⟩ := ndU_of hB (B x.1) (x := x.1) (F := fun _ => True) (Nat.le_refl _) ⟨fuel, x.2, h, hw⟩
 exact ⟨(e, B x.1), ⟨d, h1, h2, h3⟩, Nat.le_refl _⟩
def rChU : Rp (Ch × Nat) := fun w F x cs => ∃ (D : Nat) (vs : Sl) (cs' : List Value), cs = vs.v :: cs' /\ ChR false D w F x.1 vs cs' /\ chN x.1 /\ szVs x.1.vars + szN x.1.root <= x.2
theorem opensB_ch (hB : IsBulk B) : OpensB B enc Tryz.prog W base spare held 29 rChU fun x => x.2 := by
 have h := opensB_struct (enc := enc) (P := Tryz.prog) (W := W) (base := base) (spare := spare) (held := held) (T := 10) hB Tryz.underlying29 (by kernel_rfl)
   (foB_cons (s := 1) rfl (by kernel_rfl) (opensB_slice (size := 3) (bytes := 32) hB Tryz.underlying22 (by kernel_rfl) (by kernel_rfl) (opensB_vr hB)) (foB_cons (s := 9) rfl (by kernel_rfl) (opensB_nd hB) (foB_nil rfl)))
 refine h.map (fun x => ((⟨x.1.map (·.1), x.2.1.1⟩ : Ch), (x.1.map fun x => x.2).sum + x.2.1.2)) ?_
 rintro ⟨vs, ⟨nd, m⟩, u⟩ cs ⟨c1, r1, rfl, ⟨vsl, rfl, hvs, _⟩, c2, r2, rfl, ⟨d, hnd, hn, hz⟩, hu⟩
 have hu : r2 = [] := hu
 subst hu
 rw [List.append_nil]
 refine ⟨⟨d, vsl, c2, rfl, ⟨⟨slMap (·.1) hvs fun x cs _ hx => hx.1, fun h => (by cases h)⟩, hnd⟩, ⟨fun v hv => ?_, hn⟩, ?_⟩, by dsimp only; omega⟩
 · obtain ⟨x, hx, rfl⟩ := List.mem_map.1 hv
   obtain ⟨cs, hc⟩ := slMem hvs hx
   exact hc.2.1
 · show szVs (vs.map (·.1)) + szN nd <= _
   rw [szVs_sum]
   have := sum_fst (f := fun v : Vr => v.n.length + 1) (l := vs) fun x hx => by
    obtain ⟨cs, hc⟩ := slMem hvs hx
    exact hc.2.2
   dsimp only at hz ⊢
   omega
end
end Go.Proofs.YtndkfaaeeojeiaaGreatDoor.Con
namespace Go.Proofs.YtndkfaaeeojeiaaGreatDoor.Con
open Go Go.RowKit Go.Kt Go.Kt.V Go.Proofs.YtndkfaaeeojeiaaGreatDoor.Vc
set_option linter.unusedSimpArgs false
set_option linter.unusedVariables false
set_option maxHeartbeats 800000
set_option maxRecDepth 100000
theorem fhead_c {w : World} {c : Ch} {D : Nat} {vs : Sl} {cs : List Value} (hC : ChR false (D + 1) w (fun _ => True) c vs cs) (hn : chN c) (hs : szVs c.vars + szN c.root <= 8388608) (hE : Er w) (hT : Tb w)
  {R : Value -> World -> Prop} {BODY : Nat -> Sl -> Int -> World -> Prop} (hR : ∀ w2, Only [] w w2 -> R (.bool true) w2)
  (hK : ∀ (k0 : Nat) (w0 : World) (l0 : Sl) (w2 : World) (xs : List Spo), w.heap.size <= k0 -> k0 < w0.heap.size -> w0.heap.size <= w2.heap.size -> Only [] w w2 -> SliceF rSp 5 w2 (fun k => w.heap.size <= k) l0 xs -> Fo xs -> xs.length <= 64 -> BODY k0 l0 0 w2) :
  ∀ k0 : Nat, ∀ w0 : World, w.heap.size <= k0 -> k0 < w0.heap.size -> Only [] w w0 -> Calls Tryz.prog 18 #[] w0 fun e0 w1 => ∃ b0 : Bool, e0 = (.returned (.bool b0)) /\
   Same [k0] w0 w1 /\ Calls Tryz.prog 19 #[.agg (vs.v :: cs).toArray] w1 fun e1 w2 => ∃ l0 : Sl, ∃ i0 : Int, e1 = (.returned (.tuple #[l0.v, .int .i64 i0])) /\
    Same [k0] w1 w2 /\ (((!b0) || (i0 != 0)) = true -> R (.bool b0) w2) /\ (((!b0) || (i0 != 0)) = false -> BODY k0 l0 i0 w2) := by
 intro k0 w0 hk0 hk0' hO0
 have z0 := hO0.size
 refine (fsmall_c w0 (hE.only hO0) (hT.only hO0)).mono ?_
 rintro _ w1 ⟨rfl, hO1⟩
 have z1 := hO1.size
 have o1 := hO0.tr0 hO1
 have hC1 : ChR false (D + 1) w1 (fun _ => True) c vs cs := ⟨hC.vars.keep rVr_ok (by decide) fun k _ hlt => o1.block k hlt (by simp), (rNd_ok false _).keep hC.root fun k _ hlt => o1.block k hlt (by simp)⟩
 refine ⟨true, rfl, hO1.same (by simp; omega), (flat_c hC1 hn hs (hE.only o1) (hT.only o1)).mono ?_⟩
 rintro _ w2 ⟨⟨s, rfl, h1, _⟩, hO2⟩
 have z2 := hO2.size
 have o2 := o1.tr0 hO2
 refine ⟨s, _, rfl, hO2.same (by simp; omega), fun _ => hR w2 o2, fun hc => ?_⟩
 have hp : (printP c).2 = 0 := by simpa using hc
 have h1 := h1 hp
 have hnd := printP_nd hp
 rw [hp]
 exact hK k0 w0 s w2 (flatC c) hk0 hk0' (by omega) o2 (h1.sl.mono rSp_ok fun k hk => by omega) (fo_flat c) (by unfold flatC; rw [flN_len]; exact hnd)
theorem kSp {w w' : World} {F : Nat -> Prop} {l : Sl} {xs : List Spo} (h : SliceF rSp 5 w F l xs) (hO : Only [] w w') : SliceF rSp 5 w' F l xs := SliceF.only rSp_ok (by decide) h hO (by simp)
theorem mt_in {xs : List Spo} {l : List Int} {r : Int} (h : Mt xs l r) (hl : xs.length <= 64) : InI r := by
 rcases h with ⟨_, rfl⟩ | ⟨⟨hne, hh⟩, m, rfl, h1, _⟩
 · exact ⟨by omega, by omega⟩
 · cases l with
   | nil => exact absurd rfl hne
   | cons a l =>
    obtain ⟨k, _, s, hs, _⟩ := h1 a (by simp)
    have := get_lt hs
    exact ⟨by omega, by omega⟩
theorem fmeets_c {w : World} {x : Ch × Nat} {cs : List Value} {a b d : Int} (hx : rChU w (fun _ => True) x cs) (hb : x.2 <= 1048576) (ia : InI a) (ib : InI b) (id_ : InI d) (hE : Er w) (hT : Tb w) : Calls Tryz.prog 6 #[.agg cs.toArray, .int .i64 a, .int .i64 b, .int .i64 d] w fun e w' => e = .returned (.bool true) /\ Only [] w w' := by
 obtain ⟨c, m⟩ := x
 obtain ⟨D, vs, cs, rfl, hC, hn, hs⟩ := hx
 dsimp only at hC hn hs hb
 have hC0 := hC
 cases D with
 | zero => exact hC.root.elim
 | succ D =>
 obtain ⟨en, lv, mv, kids, rfl, _⟩ := hC0.root
 refine ret (v38w vs c.root.b.k (T c.root.b.nm) (T c.root.b.ini) (T c.root.b.dft) en lv mv kids c.root.b.a a b d (fun v w' => v = .bool true /\ Only [] w w') w ?_)
 unfold v38v
 refine fhead_c (R := fun v w' => v = .bool true /\ Only [] w w') hC hn (by omega) hE hT (fun w2 h => ⟨rfl, h⟩) ?_
 intro k0 w0 s w2 xs hk0 hk0' z2 o2 hS hF hl64
 obtain ⟨y1, w3, p1, p2, p3⟩ := lit3 w2 ia ib id_
 have z3 := p2.size
 refine ⟨y1, w3, p1, p2.same (by simp; omega), (meet_c (kSp hS p2) hF p3).mono ?_⟩
 rintro _ w4 ⟨⟨i1, rfl, m1⟩, hO4⟩
 have z4 := hO4.size
 have s4 := p2.tr0 hO4
 refine ⟨_, rfl, hO4.same (by simp; omega), fun r u => r = true /\ Only [] w2 u, ?_, ?_⟩
 · rintro _ w5 ⟨rfl, hO5⟩
   have z5 := hO5.size
   obtain ⟨y2, w6, q1, q2, q3⟩ := lit2 w5 ia ib
   have z6 := q2.size
   have s6 := hO5.tr0 q2
   refine ⟨y2, w6, q1, q2.same (by simp; omega), (meet_c (kSp hS s6) hF q3).mono ?_⟩
   rintro _ w7 ⟨⟨i2, rfl, m2⟩, hO7⟩
   have z7 := hO7.size
   have s7 := s6.tr0 hO7
   refine ⟨_, rfl, hO7.same (by simp; omega), fun r u => r = true /\ Only [] w2 u, ?_, fun _ => ⟨rfl, s7⟩, fun hc => ?_⟩
   · rintro _ w8 ⟨rfl, hO8⟩
     have z8 := hO8.size
     refine ⟨fun r u => r = true /\ Only [] w2 u, fun r u ⟨h, h'⟩ => ⟨by rw [h]; rfl, o2.tr0 h'⟩, (meet_c (kSp hS hO8) hF (SliceF.nil rInt 1 w8 (fun _ => True))).mono ?_⟩
     rintro _ w10 ⟨⟨i3, rfl, m3⟩, hO10⟩
     have z10 := hO10.size
     have s10 := hO8.tr0 hO10
     have e3 : i3 = -1 := m3.bad (.inl rfl)
     subst e3
     refine ⟨_, rfl, hO10.same (by simp; omega), fun _ => ⟨fun _ => ⟨rfl, s10⟩, fun hc => (fwithin_c (kSp hS s10) hF a i2).mono ?_⟩, fun hc => absurd hc (by decide)⟩
     rintro _ w11 ⟨rfl, hu⟩
     obtain rfl : w10 = w11 := hu.symm
     refine ⟨_, rfl, Same.refl _ _, ?_, s10⟩
     rw [Bool.or_eq_false_iff] at hc
     have c1 := of_decide_eq_false hc.1
     have c2 : i2 ≠ a := by simpa using hc.2
     have hg : ∀ n, n ∈ [a, b] -> Has xs n := fun n hn => Classical.byContradiction fun hh => c1 (m2.neg.2 (.inr ⟨n, hn, hh⟩))
     obtain ⟨m', rfl, t1, _⟩ := m2.good (by simp) hg
     obtain ⟨k, e, hk⟩ := t1 a (by simp)
     subst e
     refine witB_iff.2 ⟨m', k, rfl, rfl, ?_, hk⟩
     obtain ⟨_, _, h, _⟩ := hk
     omega
   · have hc := of_decide_eq_false hc
     obtain ⟨y3, w12, r1, r2, r3⟩ := lit2 w7 (mt_in m2 hl64) id_
     have z12 := r2.size
     have s12 := s7.tr0 r2
     refine ⟨y3, w12, r1, r2.same (by simp; omega), (meet_c (kSp hS s12) hF r3).mono ?_⟩
     rintro _ w13 ⟨⟨i4, rfl, m4⟩, hO13⟩
     have z13 := hO13.size
     refine ⟨_, rfl, hO13.same (by simp; omega), ?_, s12.tr0 hO13⟩
     rw [hF.mt_two m1 m2 m4 (by omega)]
     simp
 · obtain ⟨y4, w14, q1, q2, q3⟩ := lit4 w4 id_ ia ib ia
   have z14 := q2.size
   have s14 := s4.tr0 q2
   refine ⟨y4, w14, q1, q2.same (by simp; omega), (meet_c (kSp hS s14) hF q3).mono ?_⟩
   rintro _ w15 ⟨⟨i5, rfl, m5⟩, hO15⟩
   have z15 := hO15.size
   have s15 := s14.tr0 hO15
   have e5 : i1 = i5 := m1.uniq m5 fun n => by
    simp only [List.mem_cons, List.not_mem_nil, or_false]
    constructor
    · rintro (h | h | h)
      · exact .inr (.inl h)
      · exact .inr (.inr (.inl h))
      · exact .inl h
    · rintro (h | h | h | h)
      · exact .inr (.inr h)
      · exact .inl h
      · exact .inr (.inl h)
      · exact .inl h
   refine ⟨_, rfl, hO15.same (by simp; omega), fun _ => ?_, fun hc => absurd hc (by rw [e5]; simp)⟩
   obtain ⟨y5, w16, r1, r2, r3⟩ := lit3 w15 ib id_ ia
   have z16 := r2.size
   have s16 := s15.tr0 r2
   refine ⟨y5, w16, r1, r2.same (by simp; omega), (meet_c (kSp hS s16) hF r3).mono ?_⟩
   rintro _ w17 ⟨⟨i6, rfl, m6⟩, hO17⟩
   have z17 := hO17.size
   have e6 : i1 = i6 := m1.uniq m6 fun n => by
    simp only [List.mem_cons, List.not_mem_nil, or_false]
    constructor
    · rintro (h | h | h)
      · exact .inr (.inr h)
      · exact .inl h
      · exact .inr (.inl h)
    · rintro (h | h | h)
      · exact .inr (.inl h)
      · exact .inr (.inr h)
      · exact .inl h
   exact ⟨_, rfl, hO17.same (by simp; omega), by rw [e6]; simp, s16.tr0 hO17⟩
theorem Fo.dp_in {xs : List Spo} (F : Fo xs) : ∀ (k : Nat) {t : Spo}, xs[k]? = some t -> 0 <= t.dp /\ t.dp <= k
 | k, t, h => by
  by_cases h0 : 0 < k
  · obtain ⟨p, s, h1, h2, h3, h4, _⟩ := F.par h h0
    have := Fo.dp_in F p h3
    omega
  · have : k = 0 := by omega
    subst this
    have := (F.rt t h).2.1
    omega
def btw (i e : Nat) (j : Nat) : Nat := min j e - (i + 1)
theorem btw_succ (i e j : Nat) : btw i e (j + 1) = if i < j /\ j < e then btw i e j + 1 else btw i e j := by
 unfold btw
 split <;> omega
theorem witB_nat {xs : List Spo} {i j : Nat} {x : Spo} (hx : xs[i]? = some x) : witB xs (j : Int) (i : Int) = (decide ((j : Int) > i) && decide ((j : Int) < x.en)) := by
 rw [Bool.eq_iff_iff, witB_iff, Bool.and_eq_true, decide_eq_true_iff, decide_eq_true_iff]
 constructor
 · rintro ⟨i', j', e1, e2, h, y, hy, h1, h2⟩
   have e1 : i = i' := by omega
   have e2 : j = j' := by omega
   subst e1 e2
   rw [hx, Option.some.injEq] at hy
   subst hy
   exact ⟨by omega, h2⟩
 · rintro ⟨h1, h2⟩
   exact ⟨i, j, rfl, rfl, by omega, x, hx, by omega, h2⟩
theorem fends_c {w : World} {x : Ch × Nat} {cs : List Value} (hx : rChU w (fun _ => True) x cs) (hb : x.2 <= 1048576) (hE : Er w) (hT : Tb w) : Calls Tryz.prog 7 #[.agg cs.toArray] w fun e w' => e = .returned (.bool true) /\ Only [] w w' := by
 obtain ⟨c, m⟩ := x
 obtain ⟨D, vs, cs, rfl, hC, hn, hs⟩ := hx
 dsimp only at hC hn hs hb
 have hC0 := hC
 cases D with
 | zero => exact hC.root.elim
 | succ D =>
 obtain ⟨en, lv, mv, kids, rfl, _⟩ := hC0.root
 refine ret (v36w vs c.root.b.k (T c.root.b.nm) (T c.root.b.ini) (T c.root.b.dft) en lv mv kids c.root.b.a (fun v w' => v = .bool true /\ Only [] w w') w ?_)
 unfold v36v
 refine fhead_c (R := fun v w' => v = .bool true /\ Only [] w w') hC hn (by omega) hE hT (fun w2 h => ⟨rfl, h⟩) ?_
 intro k0 w0 s w2 xs hk0 hk0' z2 o2 hS hF hl64
 have hsn := hS.len
 refine ⟨fun kv i u => ∃ n : Nat, i = (n : Int) /\ kv + n = xs.length /\ n <= xs.length /\ Only [] w2 u, xs.length, ⟨0, rfl, by omega, Nat.zero_le _, Only.refl _ _⟩, ?_⟩
 rintro kv _ w3 ⟨n, rfl, hkv, hnl, hO3⟩
 have z3 := hO3.size
 refine ⟨fun hc => ?_, fun hc => ?_⟩
 · have hc := of_decide_eq_true hc
   obtain ⟨x, hx⟩ := get_at (xs := xs) (i := n) (by omega)
   have hup := hF.up n x hx
   obtain ⟨e, he⟩ : ∃ e : Nat, x.en = e := ⟨x.en.toNat, by omega⟩
   refine ⟨fun kv i2 i3 u => ∃ j : Nat, i3 = (j : Int) /\ i2 = (btw n e j : Int) /\ kv + j = xs.length /\ j <= xs.length /\ Only [] w2 u, xs.length, ⟨0, rfl, by unfold btw; omega, by omega, Nat.zero_le _, hO3⟩, ?_⟩
   rintro kv2 _ _ w4 ⟨j, rfl, rfl, hkv2, hjl, hO4⟩
   have z4 := hO4.size
   obtain ⟨ad, a1, _, a3, a4, a5⟩ := sp_at (kSp hS hO4) hx
   have hbl : btw n e j <= j := by unfold btw; omega
   refine ⟨fun hc2 => ?_, fun hc2 => ?_⟩
   · have hc2 := of_decide_eq_true hc2
     refine ⟨fun r u => r = (btw n e (j + 1) : Int) /\ Only [] w2 u, fun r u ⟨h, h'⟩ => ⟨kv2 - 1, by omega, j + 1, by rw [wr' (by omega) (by omega)]; rfl, h, by omega, by omega, h'⟩, (fwithin_c (kSp hS hO4) hF j n).mono ?_⟩
     rintro _ w6 ⟨rfl, hu⟩
     obtain rfl : w4 = w6 := hu.symm
     rw [witB_nat hx]
     refine ⟨_, rfl, Same.refl _ _, ad, fun _ => a1, x.en, fun _ => a5, fun h => absurd h (by simp), fun _ => ⟨fun h => ⟨?_, hO4⟩, fun h => ⟨?_, hO4⟩⟩⟩
     · rw [Bool.and_eq_true, decide_eq_true_iff, decide_eq_true_iff] at h
       rw [wr' (by omega) (by omega), btw_succ, if_pos ⟨by omega, by omega⟩]
       rfl
     · rw [btw_succ, if_neg]
       intro hh
       rw [decide_eq_true (show (j : Int) > n by omega), decide_eq_true (show (j : Int) < x.en by omega)] at h
       cases h
   · have hc2 := of_decide_eq_false hc2
     have hbe : (btw n e j : Int) = x.en - n - 1 := by unfold btw; omega
     have hne : ((btw n e j : Int) != (IntKind.wrap .i64 ((IntKind.wrap .i64 (x.en - (n : Int))) - 1))) = false := by
      rw [wr' (x := x.en - (n : Int)) (by omega) (by omega), wr' (by omega) (by omega), hbe]
      simp
     by_cases h0 : 0 < n
     · obtain ⟨p, y, q1, q2, q3, q4, q5, q6⟩ := hF.par hx h0
       obtain ⟨ad2, b1, _, b3, b4, b5⟩ := sp_at (kSp hS hO4) q3
       have hdl : x.dp - 1 = y.dp := by omega
       refine ⟨ad, a1, x.en, a5, ad, fun _ _ => a1, x.dp, fun _ _ => a4, ad, fun _ _ => a1, x.pa, fun _ _ => a3, ad2, fun _ _ => by rw [q2]; exact b1, y.dp, fun _ _ => b4, fun hh => ?_, fun _ w8 hO8 => ⟨kv - 1, by omega, n + 1, by rw [wr' (by omega) (by omega)]; rfl, by omega, by omega, hO4.tr0 hO8⟩⟩
       rw [hne, Bool.false_or, Bool.and_eq_true] at hh
       have hd := hF.dp_in n hx
       have hpl := get_lt q3
       rw [q4, wr' (by omega) (by omega)] at hh
       simp at hh
     · have hn0 : n = 0 := by omega
       subst hn0
       refine ⟨ad, a1, x.en, a5, ad, fun _ h => absurd h (by decide), 0, fun _ h => absurd h (by decide), ad, fun _ h => absurd h (by decide), 0, fun _ h => absurd h (by decide), ad, fun _ h => absurd h (by decide), 0, fun _ h => absurd h (by decide), fun hh => ?_, fun _ w8 hO8 => ⟨kv - 1, by omega, 1, by rw [wr' (by omega) (by omega)]; rfl, by omega, by omega, hO4.tr0 hO8⟩⟩
       rw [hne, Bool.false_or, Bool.and_eq_true] at hh
       exact absurd hh.1 (by decide)
 · obtain ⟨x, hx⟩ := get_at hF.ne
   obtain ⟨ad, a1, _, a3, a4, a5⟩ := sp_at (kSp hS hO3) hx
   have hlp := hF.ne
   refine ⟨ad, fun _ => a1, x.en, fun _ => a5, ?_, o2.tr0 hO3⟩
   rw [(hF.rt x hx).2.2, hsn, decide_eq_true (show ((xs.length : Nat) : Int) > 0 by omega)]
   simp
theorem OwnI.sl {B : Nat} {w : World} {s : Sl} {xs : List Int} (h : OwnI B w s xs) : SliceF rInt 1 w (fun k => B <= k) s xs := (h.slice rInt_ok).mono rInt_ok fun k hk => hk.elim (fun h => h.elim) fun h => h.1
theorem int_at {w : World} {F : Nat -> Prop} {s : Sl} {l : List Int} (h : SliceF rInt 1 w F s l) {i : Nat} {x : Int} (hx : l[i]? = some x) : ∃ ad, SlAt s (i : Int) 1 ad /\ Cells w ad [.int .i64 x] := by
 have hlt := (List.getElem?_eq_some_iff.1 hx).1
 have hl := h.len
 obtain ⟨ad, y, cs, g1, g2, g3, g4, g5, g6⟩ := h.get (Int.natCast_nonneg i) (by omega)
 rw [Int.toNat_natCast, hx] at g2
 injection g2 with g2
 subst g2
 obtain ⟨rfl, _⟩ := g6
 exact ⟨ad, g1, g5⟩
theorem kI {w w' : World} {F : Nat -> Prop} {s : Sl} {l : List Int} (h : SliceF rInt 1 w F s l) (hO : Only [] w w') : SliceF rInt 1 w' F s l := SliceF.only rInt_ok (by decide) h hO (by simp)
theorem cntK_le (xs : List Spo) : ∀ n, n <= xs.length -> cntK xs n <= cntK xs xs.length := by
 intro n h
 obtain ⟨d, hd⟩ : ∃ d, xs.length = n + d := ⟨xs.length - n, by omega⟩
 have : ∀ d, cntK xs n <= cntK xs (n + d) := fun d => by
  induction d with
  | zero => exact Nat.le_refl _
  | succ d ih => rw [<- Nat.add_assoc, cntK_succ]; omega
 have := this d
 rwa [<- hd] at this
theorem fkids_c {w : World} {x : Ch × Nat} {cs : List Value} (hx : rChU w (fun _ => True) x cs) (hb : x.2 <= 1048576) (hE : Er w) (hT : Tb w) : Calls Tryz.prog 9 #[.agg cs.toArray] w fun e w' => e = .returned (.bool true) /\ Only [] w w' := by
 obtain ⟨c, m⟩ := x
 obtain ⟨D, vs, cs, rfl, hC, hn, hs⟩ := hx
 dsimp only at hC hn hs hb
 have hC0 := hC
 cases D with
 | zero => exact hC.root.elim
 | succ D =>
 obtain ⟨en, lv, mv, kids, rfl, _⟩ := hC0.root
 refine ret (v37w vs c.root.b.k (T c.root.b.nm) (T c.root.b.ini) (T c.root.b.dft) en lv mv kids c.root.b.a (fun v w' => v = .bool true /\ Only [] w w') w ?_)
 unfold v37v
 refine fhead_c (R := fun v w' => v = .bool true /\ Only [] w w') hC hn (by omega) hE hT (fun w2 h => ⟨rfl, h⟩) ?_
 intro k0 w0 s w2 xs hk0 hk0' z2 o2 hS hF hl64
 have hsn := hS.len
 have hcnt := hF.count
 have hlp := hF.ne
 refine ⟨fun kv i1 i2 u => ∃ n : Nat, i2 = (n : Int) /\ i1 = (cntK xs n : Int) /\ kv + n = xs.length /\ n <= xs.length /\ Only [] w2 u, xs.length, ⟨0, rfl, rfl, by omega, Nat.zero_le _, Only.refl _ _⟩, ?_⟩
 rintro kv _ _ w3 ⟨n, rfl, rfl, hkv, hnl, hO3⟩
 have z3 := hO3.size
 refine ⟨fun hc => ?_, fun hc => ?_⟩
 · have hc := of_decide_eq_true hc
   obtain ⟨x, hx⟩ := get_at (xs := xs) (i := n) (by omega)
   have hle1 := cntK_le xs (n + 1) (by omega)
   rw [cntK_succ] at hle1
   refine (kids_c (kSp hS hO3) hF hx (by omega)).mono ?_
   rintro _ w4 ⟨⟨s1, rfl, hK0⟩, hO4⟩
   have z4 := hO4.size
   have s4 := hO3.tr0 hO4
   have hK := hK0.sl
   generalize hks : kidsOf xs n xs.length = ks at *
   have hkn := hK.len
   refine ⟨s1, rfl, hO4.same (by simp; omega), fun kv i3 i4 u => ∃ j : Nat, i4 = (j : Int) /\ i3 = ((cntK xs n + j : Nat) : Int) /\ kv + j = ks.length /\ j <= ks.length /\ Only [] w4 u, ks.length, ⟨0, rfl, rfl, by omega, Nat.zero_le _, Only.refl _ _⟩, ?_⟩
   rintro kv2 _ _ w5 ⟨j, rfl, rfl, hkv2, hjl, hO5⟩
   have z5 := hO5.size
   have s5 := s4.tr0 hO5
   refine ⟨fun hc2 => ?_, fun hc2 => ?_⟩
   · have hc2 := of_decide_eq_true hc2
     obtain ⟨y, hy⟩ : ∃ y, ks[j]? = some y := ⟨_, List.getElem?_eq_getElem (show j < ks.length by omega)⟩
     obtain ⟨ad, a1, a2⟩ := int_at (kI hK hO5) hy
     rw [<- hks] at hy
     obtain ⟨q, t, rfl, hq, htp⟩ := kidsOf_get hy
     rw [hks] at hy
     refine ⟨ad, a1, _, a2, (up_c (kSp hS s5) hF q (by omega)).mono ?_⟩
     rintro _ w6 ⟨⟨s2, is, rfl, hI, _, hu⟩, hO6⟩
     have z6 := hO6.size
     have hu := hu q t rfl hq
     rw [htp] at hu
     obtain ⟨_, l', _, rfl, _⟩ := hu.inv
     have hI' := hI.sl
     have hin := hI'.len
     rw [List.length_cons] at hin
     obtain ⟨ad2, b1, b2⟩ := int_at hI' (i := 0) List.getElem?_cons_zero
     have hn0 : ((s2.n : Int) == 0) = false := by
      rw [beq_eq_false_iff_ne]; omega
     have hnn : ((n : Int) != (n : Int)) = false := by simp
     have fin : ∀ w8 : World, Only [] w6 w8 -> ∃ k5 : Nat, k5 < kv2 /\ ∃ j' : Nat, IntKind.wrap .i64 ((j : Int) + 1) = (j' : Int) /\ IntKind.wrap .i64 (((cntK xs n + j : Nat) : Int) + 1) = ((cntK xs n + j' : Nat) : Int) /\ k5 + j' = ks.length /\ j' <= ks.length /\ Only [] w4 w8 := fun w8 hO8 => ⟨kv2 - 1, by omega, j + 1, by rw [wr' (by omega) (by omega)]; rfl, by rw [wr' (by omega) (by omega)]; omega, by omega, by omega, (hO5.tr0 hO6).tr0 hO8⟩
     by_cases h0 : 0 < j
     · obtain ⟨z, hz⟩ : ∃ z, ks[j - 1]? = some z := ⟨_, List.getElem?_eq_getElem (show j - 1 < ks.length by omega)⟩
       obtain ⟨ad3, c1, c2⟩ := int_at (kI hK (hO5.tr0 hO6)) hz
       obtain ⟨ad4, d1, d2⟩ := int_at (kI hK (hO5.tr0 hO6)) hy
       have hlt : z < (q : Int) := by
        have hp := (kidsOf_rise xs n xs.length).1
        rw [hks] at hp
        obtain ⟨h1, e1⟩ := List.getElem?_eq_some_iff.1 hz
        obtain ⟨h2, e2⟩ := List.getElem?_eq_some_iff.1 hy
        rw [<- e1, <- e2]
        exact List.pairwise_iff_getElem.1 hp (j - 1) j h1 h2 (by omega)
       have e1 : IntKind.wrap .i64 ((j : Int) - 1) = ((j - 1 : Nat) : Int) := by rw [wr' (by omega) (by omega)]; omega
       refine ⟨s2, rfl, hO6.same (by simp; omega), ad2, fun _ => b1, n, fun _ => b2, ad4, fun _ _ => d1, q, fun _ _ => d2, ad3, fun _ _ => by rw [e1]; exact c1, z, fun _ _ => c2, fun hh => ?_, fun _ => fin⟩
       rw [hn0, hnn, Bool.false_or, Bool.false_or, Bool.and_eq_true] at hh
       have := of_decide_eq_true hh.2
       omega
     · have hj0 : j = 0 := by omega
       subst hj0
       refine ⟨s2, rfl, hO6.same (by simp; omega), ad2, fun _ => b1, n, fun _ => b2, ad, fun _ h => absurd h (by decide), 0, fun _ h => absurd h (by decide), ad, fun _ h => absurd h (by decide), 0, fun _ h => absurd h (by decide), fun hh => ?_, fun _ => fin⟩
       rw [hn0, hnn, Bool.false_or, Bool.false_or, Bool.and_eq_true] at hh
       exact absurd hh.1 (by decide)
   · have hc2 := of_decide_eq_false hc2
     have hje : j = ks.length := by omega
     exact ⟨kv - 1, by omega, n + 1, by rw [wr' (by omega) (by omega)]; rfl, by rw [cntK_succ, hks, hje], by omega, by omega, s4.tr0 hO5⟩
 · have hc := of_decide_eq_false hc
   have hne : n = xs.length := by omega
   refine ⟨fun r u => r = true /\ Only [] w2 u, fun r u ⟨h, h'⟩ => ⟨by rw [h], o2.tr0 h'⟩, fun _ => ?_, fun hh => ?_⟩
   · refine (up_c (kSp hS hO3) hF 0 (by omega)).mono ?_
     rintro _ w10 ⟨⟨s2, is, rfl, hI, _, hu⟩, hO10⟩
     obtain ⟨x, hx⟩ := get_at hF.ne
     have hu := hu 0 x rfl hx
     rw [(hF.rt x hx).1] at hu
     have : is = [] := by cases hu with | stop _ => rfl
     subst this
     have hin : s2.n = 0 := hI.len
     exact ⟨s2, rfl, hO10.same (by simp; omega), by rw [hin]; rfl, hO3.tr0 hO10⟩
   · rw [hne, hcnt, hsn, wr' (by omega) (by omega)] at hh
     have : (((xs.length - 1 : Nat) : Int) == ((xs.length : Nat) : Int) - 1) = true := by rw [beq_iff_eq]; omega
     rw [this] at hh
     cases hh
end Go.Proofs.YtndkfaaeeojeiaaGreatDoor.Con
namespace Go.Proofs.YtndkfaaeeojeiaaGreatDoor.Vc
open Go Go.RowKit Go.Kt Go.Kt.V
set_option linter.unusedVariables false
set_option maxRecDepth 100000
set_option maxHeartbeats 40000000
def v39v (c : Sl) (c1 : Int) (c2 c3 c4 : ByteArray) (c5 c6 c7 c8 : Sl) (c9 a_ bb d : Int) (R : Value -> World -> Prop) (w : World) : Prop :=
  ∀ k0 : Nat, ∀ w0 : World, w.heap.size <= k0 -> k0 < w0.heap.size -> Only [] w w0 -> Calls Tryz.prog 18 #[] w0 fun e0 w1 => ∃ b0 : Bool, e0 = (.returned (.bool b0)) /\
   Same [k0] w0 w1 /\
   Calls Tryz.prog 19 #[.agg #[c.v, .int .i64 c1, .string c2, .string c3, .string c4, c5.v, c6.v, c7.v, c8.v, .int .i64 c9]] w1 fun e1 w2 => ∃ l0 : Sl, ∃ i0 : Int, e1 = (.returned (.tuple #[l0.v, .int .i64 i0])) /\
    Same [k0] w1 w2 /\
    (((!b0) || (i0 != 0)) = true -> R (.bool b0) w2) /\
    (((!b0) || (i0 != 0)) = false -> Calls Tryz.prog 23 #[l0.v, .int .i64 a_, .int .i64 bb] w2 fun e2 w3 => ∃ b1 : Bool, e2 = (.returned (.bool b1)) /\
     Same [k0] w2 w3 /\
     Calls Tryz.prog 23 #[l0.v, .int .i64 bb, .int .i64 d] w3 fun e3 w4 => ∃ b2 : Bool, e3 = (.returned (.bool b2)) /\
      Same [k0] w3 w4 /\
      Calls Tryz.prog 24 #[l0.v, .int .i64 a_] w4 fun e4 w5 => ∃ l1 : Sl, e4 = (.returned l1.v) /\
       Same [k0] w4 w5 /\
       Calls Tryz.prog 25 #[l1.v, .int .i64 bb] w5 fun e5 w6 => ∃ b3 : Bool, e5 = (.returned (.bool b3)) /\
        Same [k0] w5 w6 /\
        ∃ J0 : Bool -> World -> Prop, (∀ b4 : Bool, ∀ w7 : World, J0 b4 w7 -> R (.bool b4) w7) /\
        Calls Tryz.prog 23 #[l0.v, .int .i64 a_, .int .i64 a_] w6 fun e6 w8 => ∃ b5 : Bool, e6 = (.returned (.bool b5)) /\
         Same [k0] w6 w8 /\
         ((!b5) = true -> (b1 = true -> Calls Tryz.prog 23 #[l0.v, .int .i64 bb, .int .i64 a_] w8 fun e7 w9 => ∃ b6 : Bool, e7 = (.returned (.bool b6)) /\
            Same [k0] w8 w9 /\
            ((!b6) = true -> (((!b1) || (!b2)) = true -> J0 (b3 == b1) w9) /\
             (((!b1) || (!b2)) = false -> Calls Tryz.prog 23 #[l0.v, .int .i64 a_, .int .i64 d] w9 fun e8 w10 => ∃ b7 : Bool, e8 = (.returned (.bool b7)) /\
              Same [k0] w9 w10 /\
              J0 (b7 && (b3 == b1)) w10)) /\
            ((!b6) = false -> J0 false w9)) /\
          (b1 = false -> (((!b1) || (!b2)) = true -> J0 (b3 == b1) w8) /\
          (((!b1) || (!b2)) = false -> Calls Tryz.prog 23 #[l0.v, .int .i64 a_, .int .i64 d] w8 fun e9 w11 => ∃ b8 : Bool, e9 = (.returned (.bool b8)) /\
           Same [k0] w8 w11 /\
           J0 (b8 && (b3 == b1)) w11))) /\
         ((!b5) = false -> J0 false w8))
theorem v39w (c : Sl) (c1 : Int) (c2 c3 c4 : ByteArray) (c5 c6 c7 c8 : Sl) (c9 a_ bb d : Int) (R : Value -> World -> Prop) (w : World) (h : v39v c c1 c2 c3 c4 c5 c6 c7 c8 c9 a_ bb d R w) : Cr 8 #[.agg #[c.v, .int .i64 c1, .string c2, .string c3, .string c4, c5.v, c6.v, c7.v, c8.v, .int .i64 c9], .int .i64 a_, .int .i64 bb, .int .i64 d] w R :=
 fB (an := .s .o (.s .o (.s .o (.s (.s .o (.s (.s .o .o) .o)) (.s .o (.s .o (.s .o (.s .o (.s (.j [4] [.s 8 .bool] .o .o) .o))))))))) (args := [.agg (ofL [.sl c, .int .i64 c1, .str c2, .str c3, .str c4, .sl c5, .sl c6, .sl c7, .sl c8, .int .i64 c9]), .int .i64 a_, .int .i64 bb, .int .i64 d]) h
end Go.Proofs.YtndkfaaeeojeiaaGreatDoor.Vc
namespace Go.Proofs.YtndkfaaeeojeiaaGreatDoor.Con
open Go Go.RowKit Go.Kt Go.Kt.V Go.Proofs.YtndkfaaeeojeiaaGreatDoor.Vc
set_option linter.unusedSimpArgs false
set_option linter.unusedVariables false
set_option maxHeartbeats 800000
set_option maxRecDepth 100000
theorem hasN_c {w : World} {F : Nat -> Prop} {s : Sl} {l : List Int} (h : SliceF rInt 1 w F s l) (n : Int) : Calls Tryz.prog 25 #[s.v, .int .i64 n] w fun e w' => e = .returned (.bool (decide (n ∈ l))) /\ w' = w := by
 refine ret (v40w s n (fun v w' => v = .bool (decide (n ∈ l)) /\ w' = w) w ?_)
 unfold v40v
 have hl := h.len
 have hc0 := h.cap
 have hb0 := h.big
 refine ⟨fun kv i u => ∃ j : Nat, i = (j : Int) /\ kv + j = l.length /\ j <= l.length /\ n ∉ l.take j /\ w = u, l.length, ⟨0, rfl, by omega, Nat.zero_le _, by simp, rfl⟩, ?_⟩
 rintro kv _ _ ⟨j, rfl, hkv, hj, hn, rfl⟩
 refine ⟨fun hc => ?_, fun hc => ?_⟩
 · have hc := of_decide_eq_true hc
   obtain ⟨y, hy⟩ : ∃ y, l[j]? = some y := ⟨_, List.getElem?_eq_getElem (show j < l.length by omega)⟩
   obtain ⟨ad, a1, a2⟩ := int_at h hy
   refine ⟨ad, a1, y, a2, fun he => ⟨?_, rfl⟩, fun he => ⟨kv - 1, by omega, j + 1, by rw [wr' (by omega) (by omega)]; rfl, by omega, by omega, ?_, rfl⟩⟩
   · have : y = n := by simpa using he
     subst this
     rw [decide_eq_true (List.mem_of_getElem? hy)]
   · have : y ≠ n := by simpa using he
     rw [List.take_add_one, hy, List.mem_append]
     rintro (h | h)
     · exact hn h
     · simp only [Option.toList, List.mem_singleton] at h
       exact this h.symm
 · have hc := of_decide_eq_false hc
   rw [List.take_of_length_le (by omega)] at hn
   exact ⟨by rw [decide_eq_false hn], rfl⟩
theorem witB_no {xs : List Spo} {a b : Int} (h : ¬ ∃ i j : Nat, b = i /\ a = j /\ i < j /\ Cov xs i j) : witB xs a b = false := by
 rw [<- Bool.not_eq_true, witB_iff]; exact h
theorem forders_c {w : World} {x : Ch × Nat} {cs : List Value} {a b d : Int} (hx : rChU w (fun _ => True) x cs) (hb : x.2 <= 1048576) (hE : Er w) (hT : Tb w) : Calls Tryz.prog 8 #[.agg cs.toArray, .int .i64 a, .int .i64 b, .int .i64 d] w fun e w' => e = .returned (.bool true) /\ Only [] w w' := by
 obtain ⟨c, m⟩ := x
 obtain ⟨D, vs, cs, rfl, hC, hn, hs⟩ := hx
 dsimp only at hC hn hs hb
 have hC0 := hC
 cases D with
 | zero => exact hC.root.elim
 | succ D =>
 obtain ⟨en, lv, mv, kids, rfl, _⟩ := hC0.root
 refine ret (v39w vs c.root.b.k (T c.root.b.nm) (T c.root.b.ini) (T c.root.b.dft) en lv mv kids c.root.b.a a b d (fun v w' => v = .bool true /\ Only [] w w') w ?_)
 unfold v39v
 refine fhead_c (R := fun v w' => v = .bool true /\ Only [] w w') hC hn (by omega) hE hT (fun w2 h => ⟨rfl, h⟩) ?_
 intro k0 w0 s w2 xs hk0 hk0' z2 o2 hS hF hl64
 refine (fwithin_c hS hF a b).mono ?_
 rintro _ u ⟨rfl, hu⟩
 obtain rfl : w2 = u := hu.symm
 refine ⟨_, rfl, Same.refl _ _, (fwithin_c hS hF b d).mono ?_⟩
 rintro _ u ⟨rfl, hu⟩
 obtain rfl : w2 = u := hu.symm
 refine ⟨_, rfl, Same.refl _ _, (up_c hS hF a (by omega)).mono ?_⟩
 rintro _ w5 ⟨⟨s1, is, rfl, hI, hno, hu⟩, hO5⟩
 have z5 := hO5.size
 have o5 := o2.tr0 hO5
 have hS5 := kSp hS hO5
 have hin : decide (b ∈ is) = witB xs a b := by
  rw [Bool.eq_iff_iff, decide_eq_true_iff, witB_iff]
  by_cases ha : Has xs a
  · obtain ⟨k, rfl⟩ : ∃ k : Nat, a = k := ⟨a.toNat, by have := ha.1; omega⟩
    obtain ⟨t, ht⟩ := get_at (xs := xs) (i := k) (by have := ha.2; omega)
    rw [hF.ups_mem k ht (hu k t rfl ht) b]
    constructor
    · rintro ⟨i, h1, h2, h3⟩
      exact ⟨i, k, h1, rfl, h2, h3⟩
    · rintro ⟨i, j, h1, h2, h3, h4⟩
      have : k = j := by omega
      subst this
      exact ⟨i, h1, h3, h4⟩
  · rw [hno ha]
    refine ⟨fun h => by simp at h, ?_⟩
    rintro ⟨i, j, h1, rfl, h3, h4⟩
    have := hF.cov_lt h4
    exact absurd ⟨by omega, by omega⟩ ha
 refine ⟨s1, rfl, hO5.same (by simp; omega), (hasN_c hI.sl b).mono ?_⟩
 rintro _ u ⟨rfl, hu'⟩
 obtain rfl : w5 = u := hu'.symm
 rw [hin]
 refine ⟨_, rfl, Same.refl _ _, fun r u => r = true /\ w5 = u, fun r u ⟨h, h'⟩ => ⟨by rw [h], by rw [<- h']; exact o5⟩, (fwithin_c hS5 hF a a).mono ?_⟩
 rintro _ u ⟨rfl, hu'⟩
 obtain rfl : w5 = u := hu'.symm
 have haa : witB xs a a = false := witB_no fun ⟨i, j, h1, h2, h3, _⟩ => by omega
 rw [haa]
 refine ⟨_, rfl, Same.refl _ _, fun _ => ⟨fun hab => (fwithin_c hS5 hF b a).mono ?_, fun hab => ?_⟩, fun h => absurd h (by decide)⟩
 · rintro _ u ⟨rfl, hu'⟩
   obtain rfl : w5 = u := hu'.symm
   have hba : witB xs b a = false := witB_no fun ⟨i, j, h1, h2, h3, _⟩ => by
    obtain ⟨i', j', g1, g2, g3, _⟩ := witB_iff.1 hab
    omega
   rw [hba]
   refine ⟨_, rfl, Same.refl _ _, fun _ => ⟨fun _ => ⟨by simp, rfl⟩, fun hc => (fwithin_c hS5 hF a d).mono ?_⟩, fun h => absurd h (by decide)⟩
   rintro _ u ⟨rfl, hu'⟩
   obtain rfl : w5 = u := hu'.symm
   have hbd : witB xs b d = true := by
    rw [hab] at hc
    simpa using hc
   have had : witB xs a d = true := by
    obtain ⟨i, j, h1, h2, h3, h4⟩ := witB_iff.1 hab
    obtain ⟨i', j', g1, g2, g3, g4⟩ := witB_iff.1 hbd
    have : i = j' := by omega
    subst this
    exact witB_iff.2 ⟨i', j, g1, h2, by omega, hF.cov_tr g4 h4⟩
   exact ⟨_, rfl, Same.refl _ _, by rw [had]; simp, rfl⟩
 · refine ⟨fun _ => ⟨by simp, rfl⟩, fun hc => ?_⟩
   rw [hab] at hc
   simp at hc
end Go.Proofs.YtndkfaaeeojeiaaGreatDoor.Con
