import Derived.Test.YtijipkdbkgafkaaQr2
set_option linter.unusedSectionVars false
namespace Go.Proofs
open Go.Shelf
def Try.keysM_ren : Go.Shelf.Ren := ⟨fun | 7 => 52 | 10 => 61 | n => n, fun | 23 => 28 | 26 => 9 | 3 => 64 | 28 => 84 | 0 => 0 | 27 => 83 | 33 => 59 | 4 => 4 | n => n, fun | n => n⟩
theorem Try.keysM : Go.Proofs.SlLaysZ.n7 Try.prog Try.keysM_ren := {
 mixed := by kernel_rfl
 f7 := ⟨Try.f52.name, by decide, Try.func52.trans (congrArg some (by kernel_rfl))⟩
 f10 := ⟨Try.f61.name, by decide, Try.func61.trans (congrArg some (by kernel_rfl))⟩
 t0 := Try.underlying0
 a0 := Try.isAgg0
 z0 := Try.sizeOf0
 v0 := Try.zeroValue0
 t4 := Try.underlying4
 a4 := Try.isAgg4
 z4 := Try.sizeOf4
 v4 := Try.zeroValue4
 t23 := Try.underlying28
 a23 := Try.isAgg28
 z23 := Try.sizeOf28
 v23 := Try.zeroValue28
 t26 := Try.underlying9
 a26 := Try.isAgg9
 z26 := Try.sizeOf9
 v26 := Try.zeroValue9
 t27 := Try.underlying83
 a27 := Try.isAgg83
 z27 := Try.sizeOf83
 v27 := Try.zeroValue83
 t28 := Try.underlying84
 a28 := Try.isAgg84
 z28 := Try.sizeOf84
 v28 := Try.zeroValue84
 t33 := Try.underlying59
 a33 := Try.isAgg59
 z33 := Try.sizeOf59
 v33 := Try.zeroValue59 }
def Try.sortedM_ren : Go.Shelf.Ren := ⟨fun | 6 => 51 | 8 => 59 | 9 => 60 | 11 => 62 | 13 => 64 | 12 => 63 | 23 => 74 | 24 => 75 | 14 => 65 | 15 => 66 | 16 => 67 | 17 => 68 | 18 => 69 | 19 => 70 | 20 => 71 | 21 => 72 | 22 => 73 | 25 => 76 | 26 => 77 | 27 => 78 | 28 => 79 | 29 => 80 | 30 => 81 | 31 => 82 | n => n, fun | 26 => 9 | 28 => 84 | 24 => 67 | 0 => 0 | 3 => 3 | 37 => 94 | 48 => 105 | 50 => 107 | 4 => 4 | 40 => 97 | 39 => 96 | 45 => 102 | 5 => 5 | 9 => 9 | 51 => 108 | 55 => 112 | 57 => 114 | 58 => 115 | 33 => 59 | n => n, fun | n => n⟩
theorem Try.sortedM : Go.Proofs.SlLaysZ.n6 Try.prog Try.sortedM_ren := {
 mixed := by kernel_rfl
 f6 := ⟨Try.f51.name, by decide, Try.func51.trans (congrArg some (by kernel_rfl))⟩
 f8 := ⟨Try.f59.name, by decide, Try.func59.trans (congrArg some (by kernel_rfl))⟩
 f11 := ⟨Try.f62.name, by decide, Try.func62.trans (congrArg some (by kernel_rfl))⟩
 t0 := Try.underlying0
 a0 := Try.isAgg0
 z0 := Try.sizeOf0
 v0 := Try.zeroValue0
 t24 := Try.underlying67
 a24 := Try.isAgg67
 z24 := Try.sizeOf67
 v24 := Try.zeroValue67
 t26 := Try.underlying9
 a26 := Try.isAgg9
 z26 := Try.sizeOf9
 v26 := Try.zeroValue9
 t28 := Try.underlying84
 a28 := Try.isAgg84
 z28 := Try.sizeOf84
 v28 := Try.zeroValue84
 i26 := by kernel_rfl }
def Try.sortM_ren : Go.Shelf.Ren := ⟨fun | 6 => 60 | 8 => 64 | 9 => 63 | 19 => 74 | 20 => 75 | 21 => 65 | 22 => 66 | 23 => 67 | 24 => 68 | 25 => 69 | 26 => 70 | 27 => 71 | 28 => 72 | 29 => 73 | 36 => 76 | 31 => 77 | 32 => 78 | 37 => 79 | 38 => 80 | 39 => 81 | 41 => 82 | n => n, fun | 27 => 67 | 29 => 9 | 3 => 3 | 32 => 94 | 26 => 67 | 0 => 0 | 44 => 105 | 46 => 107 | 4 => 4 | 36 => 97 | 35 => 96 | 41 => 102 | 5 => 5 | 9 => 9 | 53 => 108 | 57 => 112 | 63 => 114 | 64 => 115 | n => n, fun | n => n⟩
theorem Try.sortM : Go.Proofs.SlLaysM.n6 Try.prog Try.sortM_ren := {
 mixed := by kernel_rfl
 f6 := ⟨Try.f60.name, by decide, Try.func60.trans (congrArg some (by kernel_rfl))⟩
 f8 := Try.func64.trans (congrArg some (by kernel_rfl))
 f9 := ⟨Try.f63.name, by decide, Try.func63.trans (congrArg some (by kernel_rfl))⟩
 f19 := Try.func74.trans (congrArg some (by kernel_rfl))
 f20 := Try.func75.trans (congrArg some (by kernel_rfl))
 f21 := ⟨Try.f65.name, by decide, Try.func65.trans (congrArg some (by kernel_rfl))⟩
 f22 := ⟨Try.f66.name, by decide, Try.func66.trans (congrArg some (by kernel_rfl))⟩
 f23 := ⟨Try.f67.name, by decide, Try.func67.trans (congrArg some (by kernel_rfl))⟩
 f24 := ⟨Try.f68.name, by decide, Try.func68.trans (congrArg some (by kernel_rfl))⟩
 f25 := ⟨Try.f69.name, by decide, Try.func69.trans (congrArg some (by kernel_rfl))⟩
 f26 := ⟨Try.f70.name, by decide, Try.func70.trans (congrArg some (by kernel_rfl))⟩
 f27 := ⟨Try.f71.name, by decide, Try.func71.trans (congrArg some (by kernel_rfl))⟩
 f28 := ⟨Try.f72.name, by decide, Try.func72.trans (congrArg some (by kernel_rfl))⟩
 f29 := ⟨Try.f73.name, by decide, Try.func73.trans (congrArg some (by kernel_rfl))⟩
 f31 := Try.func77.trans (congrArg some (by kernel_rfl))
 f32 := Try.func78.trans (congrArg some (by kernel_rfl))
 f36 := ⟨Try.f76.name, by decide, Try.func76.trans (congrArg some (by kernel_rfl))⟩
 f37 := ⟨Try.f79.name, by decide, Try.func79.trans (congrArg some (by kernel_rfl))⟩
 f38 := ⟨Try.f80.name, by decide, Try.func80.trans (congrArg some (by kernel_rfl))⟩
 f39 := ⟨Try.f81.name, by decide, Try.func81.trans (congrArg some (by kernel_rfl))⟩
 f41 := ⟨Try.f82.name, by decide, Try.func82.trans (congrArg some (by kernel_rfl))⟩
 t0 := Try.underlying0
 a0 := Try.isAgg0
 z0 := Try.sizeOf0
 v0 := Try.zeroValue0
 t3 := Try.underlying3
 a3 := Try.isAgg3
 z3 := Try.sizeOf3
 v3 := Try.zeroValue3
 t4 := Try.underlying4
 a4 := Try.isAgg4
 z4 := Try.sizeOf4
 v4 := Try.zeroValue4
 t5 := Try.underlying5
 a5 := Try.isAgg5
 z5 := Try.sizeOf5
 v5 := Try.zeroValue5
 t9 := Try.underlying9
 a9 := Try.isAgg9
 z9 := Try.sizeOf9
 v9 := Try.zeroValue9
 t26 := Try.underlying67
 a26 := Try.isAgg67
 z26 := Try.sizeOf67
 v26 := Try.zeroValue67
 t27 := Try.underlying67
 a27 := Try.isAgg67
 z27 := Try.sizeOf67
 v27 := Try.zeroValue67
 t29 := Try.underlying9
 a29 := Try.isAgg9
 z29 := Try.sizeOf9
 v29 := Try.zeroValue9
 t32 := Try.underlying94
 a32 := Try.isAgg94
 z32 := Try.sizeOf94
 v32 := Try.zeroValue94
 t35 := Try.underlying96
 a35 := Try.isAgg96
 z35 := Try.sizeOf96
 v35 := Try.zeroValue96
 t36 := Try.underlying97
 a36 := Try.isAgg97
 z36 := Try.sizeOf97
 v36 := Try.zeroValue97
 t41 := Try.underlying102
 a41 := Try.isAgg102
 z41 := Try.sizeOf102
 v41 := Try.zeroValue102
 t44 := Try.underlying105
 a44 := Try.isAgg105
 z44 := Try.sizeOf105
 v44 := Try.zeroValue105
 t46 := Try.underlying107
 a46 := Try.isAgg107
 z46 := Try.sizeOf107
 v46 := Try.zeroValue107
 t53 := Try.underlying108
 a53 := Try.isAgg108
 z53 := Try.sizeOf108
 v53 := Try.zeroValue108
 t57 := Try.underlying112
 a57 := Try.isAgg112
 z57 := Try.sizeOf112
 v57 := Try.zeroValue112
 t63 := Try.underlying114
 a63 := Try.isAgg114
 z63 := Try.sizeOf114
 v63 := Try.zeroValue114
 t64 := Try.underlying115
 a64 := Try.isAgg115
 z64 := Try.sizeOf115
 v64 := Try.zeroValue115 }
open Go.RowKit Go.Maps Go.Sort Go.Shelf in
theorem Try.sortsM (m : Nat) : AnyZ.SortsIn Try.prog Try.sortedM_ren Fence.wide m :=
  ⟨fun blk off cap ss W hH hblk hsz => callsIn_wide.2 (AnyM.slices_Sort_string Try.sortM blk off cap ss W hH hblk hsz),
   fun p cap W => callsIn_wide.2 (AnyM.slices_Sort_string_none Try.sortM p cap W)⟩
open Go.RowKit Go.Maps Go.Sort Go.Shelf in
theorem Try.keysM_c (mb : Option Nat) (W : World) : Calls Try.prog 52 #[.map mb] W fun e w' => e = .returned (.func (.func 61) #[] #[.pointer (some ⟨W.heap.size, 0, none⟩)]) /\ w' = W.alloc (.cells #[.map mb] 28) :=
 callsIn_wide.1 (AnyZ.keys_in Try.keysM Fence.wide 5 trivial rfl mb W)
open Go.RowKit Go.Maps Go.Sort Go.Shelf in
theorem Try.sortedM_c {H : Type} (k b nn : Nat) (D0 : DataW H) (R : Value -> Option (DataW H × List MemPlace)) (w : World) (hk : k < w.heap.size) (hm : w.cell? ⟨k, 0, none⟩ = some (.map (some b))) (hown : w.ownsMap Try.prog 9 R b nn D0) (hmax : Maps.size D0 <= maxLen) (hbytes : Maps.size D0 * 16 <= 140737488355328) :
  Calls Try.prog 51 #[.func (.func 61) #[] #[.pointer (some ⟨k, 0, none⟩)]] w fun e w' => ∃ (v : Value) (ss : List (List UInt8)), e = .returned v /\ ss.Perm (strKeys D0) /\
   w'.ownsRow w.heap.size 9 1 v ss.length ((ss.mergeSort (fun x y => decide (x <= y))).map encStr) /\ (v = .slice none 0 0 ↔ ss = []) /\ Below w.heap.size w w' := by
 have hseq : SeqGives Fence.wide 2 Try.prog 61 #[.pointer (some ⟨k, 0, none⟩)] encStr (fun ss => ss.Perm (strKeys D0)) (Maps.size D0) w :=
  AnyZ.keys_gives (ρ := Try.keysM_ren) { Try.keysM with } Fence.wide _ trivial rfl (by omega) k b nn D0 w hk hm hown
 exact callsIn_wide.1 (AnyZ.sorted_in Try.sortedM Fence.wide 5 trivial trivial trivial trivial rfl (by omega) (Try.sortsM _) (enters_of Try.func60 (by kernel_rfl) rfl) 61 #[.pointer (some ⟨k, 0, none⟩)] trivial (enters_of Try.func61 (by kernel_rfl) rfl) _ _ hmax hbytes _ hseq)
end Go.Proofs
namespace Go.Proofs.Ytijipkdbkgafkaa.Con
open Go Go.RowKit Go.Kt Go.Kt.V Go.Proofs.Ytijipkdbkgafkaa.Vc
set_option linter.unusedSimpArgs false
set_option linter.unusedVariables false
set_option maxHeartbeats 4000000
theorem els_tx (l : List (List UInt8)) (w : World) (F : Nat -> Prop) : Els rTx 1 w F l (l.map fun a => [Value.string (T a)]) := by
 induction l with
 | nil => exact trivial
 | cons a l ih => exact ⟨⟨rfl, rfl⟩, ih⟩
theorem flat_tx (l : List (List UInt8)) : (l.map fun a => [Value.string (T a)]).flatten = l.map Go.Proofs.encStr := by
 induction l with
 | nil => rfl
 | cons a l ih => rw [List.map_cons, List.flatten_cons, ih]; rfl
theorem own_row {B : Nat} {w : World} {v : Value} {l : List (List UInt8)} {n : Nat} (h : w.ownsRow B 9 1 v n (l.map Go.Proofs.encStr)) : ∃ s : Sl, v = s.v /\ Own rTx 1 9 B w (fun _ => False) s l := by
 obtain ⟨hl, h⟩ := h
 rw [List.length_map, Nat.mul_one] at hl
 subst hl
 rcases h with ⟨rfl, hn⟩ | ⟨g, cap, cur, rfl, h1, h2, h3, h4, h5, h6⟩
 · have : l = [] := List.eq_nil_of_length_eq_zero hn
   subst this
   exact ⟨Sl.nil, rfl, Own.nil _ _ _ _ _ _⟩
 · refine ⟨⟨some ⟨g, 0, none⟩, l.length, cap⟩, rfl, .inr ⟨g, _, cur.toList.drop l.length, rfl, h1, ?_, ?_, rfl, h3, ?_, els_tx l w _⟩⟩
   · rw [Nat.mul_one] at h6
     rw [flat_tx, <- h6, List.take_append_drop]
     unfold Blk
     rw [h2]
   · dsimp only
     rw [List.length_drop, Array.length_toList, h5]
     omega
   · have : maxLen = 9223372036854775807 := rfl
     dsimp only
     omega
def itV (k : Nat) : OV := ⟨.func (.func 61) #[] #[.pointer (some ⟨k, 0, none⟩)], rfl⟩
theorem keysM_c (r : Nat) (w : World) : Calls Try.prog 52 #[.map (some r)] w fun e w' => e = .returned (itV w.heap.size).v /\ Blk w' w.heap.size 28 [.map (some r)] /\ Only [] w w' /\ w.heap.size < w'.heap.size := by
 refine (Try.keysM_c (some r) w).mono ?_
 rintro e w' ⟨rfl, rfl⟩
 exact ⟨rfl, heap_alloc_new w _, Only.alloc _ _, by show _ < (w.heap.push _).size; simp⟩
theorem sortedM_c {w : World} {r n k : Nat} {m : List UInt8 -> Option Value} {L : List (List UInt8)} (h : MapV kS gS w r m n) (hn : n <= 4194304) (hk : Blk w k 28 [.map (some r)]) (hL : L.Pairwise (· < ·)) (he : ∀ a, a ∈ L ↔ (m a).isSome = true) :
  Calls Try.prog 51 #[(itV k).v] w fun e w' => ∃ s : Sl, e = .returned s.v /\ Own rTx 1 9 w.heap.size w' (fun _ => False) s L /\ Only [] w w' := by
 obtain ⟨D, h1, h2, h3, h4⟩ := h.owns (P := Try.prog) (kt := 9) (by kernel_rfl) (by have : maxLen = 9223372036854775807 := rfl; omega)
 refine (Try.sortedM_c k r n D _ w hk.lt (hk.cell 0) h1 (by have : maxLen = 9223372036854775807 := rfl; omega) (by omega)).mono ?_
 rintro e w' ⟨v, ss, rfl, k1, k2, k3, k4⟩
 have hs : ss.Nodup := k1.nodup_iff.2 h3
 rw [sorted_is hL hs fun a => by rw [k1.mem_iff, h4, he]] at k2
 obtain ⟨s, rfl, ho⟩ := own_row k2
 exact ⟨s, rfl, ho, Only.of_below k4⟩
end Go.Proofs.Ytijipkdbkgafkaa.Con
namespace Go.Proofs.Ytijipkdbkgafkaa.Con
open Go Go.RowKit Go.Kt Go.Kt.V Go.Proofs.Ytijipkdbkgafkaa.Vc
set_option linter.unusedSimpArgs false
set_option linter.unusedVariables false
set_option maxHeartbeats 1000000
abbrev Gr (F : Nat -> Prop) (w w' : World) : Nat -> Prop := fun k => F k ∨ (w.heap.size <= k /\ k < w'.heap.size)
section
variable {w w' : World} {d r : Nat} {D : Dk} {tb : Tb} {F G : Nat -> Prop} {p : Nat} {s : Sl} {f : Fl} {k : List UInt8}
theorem DkP.off (h : DkP w d D r tb F) : Cells w ((⟨d, 0, none⟩ : Addr).add 0) [.bool D.off] := by
 obtain ⟨a, b, c, hb, _⟩ := h.blk
 exact Blk.at1 hb 0 rfl
theorem DkP.mp (h : DkP w d D r tb F) : Cells w ((⟨d, 0, none⟩ : Addr).add 5) [.map (some r)] := by
 obtain ⟨a, b, c, hb, _⟩ := h.blk
 exact Blk.at1 hb 5 rfl
theorem DkP.look (h : DkP w d D r tb F) (s : List UInt8) : (Instr.lookup 28 (.map (some r)) (.string (T s)) false).run Try.prog w = .ok (.pointer ((tb s).map fun q => ⟨q.1, 0, none⟩)) w := by
 have := h.map.lookup (P := Try.prog) (mty := 28) (kt := 9) (et := 64) (z := .pointer none) keyS (by kernel_rfl) (by kernel_rfl) (fun w => Try.zeroValue64 w) s
 rw [this, mT]
 cases tb s <;> rfl
theorem pcut_c (h : DkP w d D r tb F) : Calls Try.prog 27 #[.pointer (some ⟨d, 0, none⟩)] w fun e w' => e = .returned (.tuple #[.bool (cutP D).1.isSome, .int .i64 ((cutP D).1.getD 0)]) /\ DkP w' d (cutP D).2 r tb F /\ Only [d] w w' := by
 refine ret (v20w ⟨d, 0, none⟩ (fun v w' => v = .tuple #[.bool (cutP D).1.isSome, .int .i64 ((cutP D).1.getD 0)] /\ DkP w' d (cutP D).2 r tb F /\ Only [d] w w') w ?_)
 unfold v20v
 obtain ⟨armed, acts, part, hb, hp⟩ := h.blk
 refine ⟨armed, Blk.at1 hb 1 rfl, fun ha => ?_, fun ha => ?_⟩
 · have ha : armed = false := by simpa using ha
   have hn : D.pw = none := by
    unfold Pw at hp
    split at hp
    · assumption
    · rw [ha] at hp; cases hp.1
   have e : cutP D = (none, D) := by unfold cutP; rw [hn]
   rw [e]
   exact ⟨rfl, h, (Only.refl [] w).weaken fun _ h => (by cases h)⟩
 · have ha : armed = true := by simpa using ha
   obtain ⟨a, q, hn⟩ : ∃ a q, D.pw = some (a, q) := by
    unfold Pw at hp
    split at hp
    · rw [ha] at hp; cases hp
    · exact ⟨_, _, by assumption⟩
   unfold Pw at hp
   rw [hn] at hp
   obtain ⟨_, rfl, rfl, hab⟩ := hp
   refine ⟨_, Blk.at1 hb 2 rfl, fun hc => ?_, fun hc => ?_⟩
   · have hc : (0 : Int) < a := of_decide_eq_true hc
     obtain ⟨a, rfl⟩ : ∃ b, a = b + 1 := ⟨a - 1, by omega⟩
     have e : cutP D = (none, { D with pw := some (a, part) }) := by unfold cutP; rw [hn]
     refine ⟨_, Blk.at1 hb 2 rfl, d, 2, _, _, rfl, hb, by simp, fun w0 hO hB => ?_⟩
     rw [e]
     have hw : IntKind.wrap .i64 (((a + 1 : Nat) : Int) - 1) = (a : Int) := by rw [wr' (by omega) (by omega)]; omega
     rw [hw] at hB
     exact ⟨rfl, h.power hO (off := D.off) (pw := some (a, part)) hB ⟨ha, rfl, rfl, by omega⟩, hO⟩
   · have hc : ¬ (0 : Int) < a := of_decide_eq_false hc
     obtain rfl : a = 0 := by omega
     have e : cutP D = (some part, { D with pw := none, off := true }) := by unfold cutP; rw [hn]
     refine ⟨d, 1, _, _, rfl, hb, by simp, fun w1 hO1 hB1 => ⟨d, 0, _, _, rfl, hB1, by simp [splice], fun w2 hO2 hB2 => ⟨_, Blk.at1 hB2 3 rfl, fun w3 hO3 => ?_⟩⟩⟩
     rw [e]
     have o : Only [d] w w3 := (hO1.trans hO2 fun x hx => .inl hx).tr0 hO3
     exact ⟨rfl, h.power o (off := true) (pw := none) (hO3.blk hB2 (by simp)) rfl, o⟩
theorem name_c (s : List UInt8) : Calls Try.prog 25 #[.string (T s)] w fun e w' => e = .returned (.bool (nameK s)) /\ w' = w := by
 refine ret (v17w (T s) (fun v w' => v = .bool (nameK s) /\ w' = w) w ?_)
 unfold v17v
 refine ⟨?_, rfl⟩
 unfold nameK
 have e1 : ((T s).toList == (ByteArray.mk #[]).toList) = decide (s = []) := by
  rw [Lib.toList_data, Lib.toList_data, Bool.eq_iff_iff]
  simp
 have e2 : ((T s).size : Int) <= 32 ↔ s.length <= 32 := by
  have : (T s).size = s.length := by show s.toArray.size = _; simp
  rw [this]; omega
 rw [e1, decide_eq_decide.2 e2]
theorem modulo_c (n : Int) {k : Nat} (hk : 0 < k) (hb : k <= 1152921504606846976) : Calls Try.prog 28 #[.int .i64 n, .int .i64 (k : Int)] w fun e w' => e = .returned (.int .i64 (modI n k : Int)) /\ w' = w := by
 refine ret (v16w n (k : Int) (fun v w' => v = .int .i64 (modI n k : Int) /\ w' = w) w ?_)
 unfold v16v
 have h1 := Int.lt_tmod_of_pos n (b := (k : Int)) (by omega)
 have h2 := Int.tmod_lt_of_pos n (b := (k : Int)) (by omega)
 refine ⟨by omega, by omega, ?_, rfl⟩
 rw [wr' (by omega) (by omega), modI_eq n hk]
theorem find_c (h : DkP w d D r tb F) (s : List UInt8) : Calls Try.prog 31 #[.pointer (some ⟨d, 0, none⟩), .string (T s)] w fun e w' => (∃ q : Option Addr, e = .returned (.tuple #[.pointer q, .int .i64 (findE D s)]) /\ (findE D s = 0 -> D.off = false /\ ∃ p sl f, tb s = some (p, sl) /\ lookF D.fs s = some f /\ q = some ⟨p, 0, none⟩ /\ FileP w p sl f)) /\ w' = w := by
 refine (v13w ⟨d, 0, none⟩ (T s) (fun v w' => (∃ q : Option Addr, v = .tuple #[.pointer q, .int .i64 (findE D s)] /\ (findE D s = 0 -> D.off = false /\ ∃ p sl f, tb s = some (p, sl) /\ lookF D.fs s = some f /\ q = some ⟨p, 0, none⟩ /\ FileP w p sl f)) /\ w' = w) w ?_).mono (by
  rintro _ w' ⟨v, rfl, ⟨q, rfl, h⟩, h'⟩; exact ⟨⟨q, rfl, h⟩, h'⟩)
 unfold v13v
 refine ⟨_, h.mp, _, w, h.look s, D.off, h.off, fun ho => ?_, fun ho => ⟨fun hq => ?_, fun hq => ?_⟩⟩
 · have e : findE D s = 50 := by unfold findE; rw [ho]; rfl
   rw [e]
   exact ⟨⟨_, rfl, fun h => (by cases h)⟩, rfl⟩
 · have ht : tb s = none := by cases ht : tb s with
    | none => rfl
    | some q => rw [ht] at hq; cases hq
   have e : findE D s = 51 := by unfold findE; rw [ho, if_neg (by simp), if_pos ((h.non s).1 ht)]
   rw [e]
   exact ⟨⟨_, rfl, fun h => (by cases h)⟩, rfl⟩
 · cases ht : tb s with
   | none => rw [ht] at hq; cases hq
   | some q =>
    obtain ⟨f, hf⟩ := h.hasF ht
    have e : findE D s = 0 := by unfold findE; rw [ho, if_neg (by simp), if_neg (by rw [hf]; simp)]
    rw [e]
    exact ⟨⟨_, rfl, fun _ => ⟨ho, q.1, q.2, f, rfl, hf, rfl, h.fil s q.1 q.2 f ht hf⟩⟩, rfl⟩
theorem bclone_c {bs : List UInt8} (hs : SliceF rByte 1 w G s bs) (hm : bs.length <= 140737488355328) : Calls Try.prog 30 #[s.v] w fun e w' => (∃ t : Sl, e = .returned t.v /\ Own rByte 1 5 w.heap.size w' (fun _ => False) t bs) /\ Only [] w w' := by
 refine (v0w s (fun v w' => (∃ t : Sl, v = t.v /\ Own rByte 1 5 w.heap.size w' (fun _ => False) t bs) /\ Only [] w w') w ?_).mono (by
  rintro _ w' ⟨v, rfl, ⟨t, rfl, h⟩, h'⟩; exact ⟨⟨t, rfl, h⟩, h'⟩)
 unfold v0v
 refine ⟨fun ha => ?_, fun ha => ?_⟩
 · have h0 := hs.nil0 (by cases h : s.a with
    | none => rfl
    | some a => rw [h] at ha; cases ha)
   have : bs = [] := List.eq_nil_of_length_eq_zero (by have := hs.len; have := hs.cap; omega)
   subst this
   exact ⟨⟨Sl.nil, rfl, Own.nil _ _ _ _ _ _⟩, Only.refl _ _⟩
 · obtain ⟨x1, w1, k1, x2, w2, k2, k3, k4, k5⟩ := clone_own (P := Try.prog) (t := 33) (ty := 33) (e := 5) (i := Try.t5) (bytes := 1) (size := 1) (r := rByte) (by kernel_rfl) (by kernel_rfl) rfl rfl rfl rfl (by decide) rByte_ok hs (by omega) (by decide)
   refine ⟨x1, w1, k1, x2, w2, k2, ⟨x2, rfl, ?_⟩, k4⟩
   rcases k3 with ⟨e1, e2⟩ | ⟨g, css, tail, e1, e2, e3, e4, e5, e6, e7, e8⟩
   · exact .inl ⟨e1, e2⟩
   · exact .inr ⟨g, css, tail, e1, e2, e3, e4, e5, e6, e7, All2.imp (fun _ _ h => ⟨h.1, h.2⟩) e8⟩
theorem rise_map {l : List Fl} (h : Rise l) : (l.map (·.nm)).Pairwise (· < ·) := List.pairwise_map.2 h
theorem names_c (h : DkP w d D r tb F) (hn : D.fs.length <= 4194304) : Calls Try.prog 29 #[.pointer (some ⟨d, 0, none⟩)] w fun e w' => (∃ t : Sl, e = .returned t.v /\ Own rTx 1 9 w.heap.size w' (fun _ => False) t (D.fs.map (·.nm))) /\ Only [] w w' := by
 refine (v7w ⟨d, 0, none⟩ (fun v w' => (∃ t : Sl, v = t.v /\ Own rTx 1 9 w.heap.size w' (fun _ => False) t (D.fs.map (·.nm))) /\ Only [] w w') w ?_).mono (by
  rintro _ w' ⟨v, rfl, ⟨t, rfl, h⟩, h'⟩; exact ⟨⟨t, rfl, h⟩, h'⟩)
 unfold v7v
 refine ⟨_, h.mp, (keysM_c r w).mono ?_⟩
 rintro _ w0 ⟨rfl, hB, hO, hz⟩
 refine ⟨itV w.heap.size, rfl, (sortedM_c (h.map.only hO (by simp)) hn hB (rise_map h.inv.rise) fun a => ?_).mono ?_⟩
 · have e : (mT tb a).isSome = true ↔ lookF D.fs a ≠ none := by
    rw [ne_eq, <- h.non a, mT]
    cases tb a <;> simp
   rw [e, List.mem_map]
   constructor
   · rintro ⟨f, hf, rfl⟩
     rw [h.inv.rise.lookF hf]; simp
   · intro hl
     cases hq : lookF D.fs a with
     | none => exact absurd hq hl
     | some f => exact ⟨f, lookF_mem hq⟩
 · rintro _ w1 ⟨t, rfl, ho, hO1⟩
   exact ⟨t, rfl, ⟨t, rfl, ho.low (by omega)⟩, hO.tr0 hO1⟩
end
end Go.Proofs.Ytijipkdbkgafkaa.Con
namespace Go.Proofs.Ytijipkdbkgafkaa.Con
open Go Go.RowKit Go.Kt Go.Kt.V Go.Proofs.Ytijipkdbkgafkaa.Vc
open Go.ChangeMaps (setBlock)
set_option linter.unusedSimpArgs false
set_option linter.unusedVariables false
set_option maxHeartbeats 1000000
def kNm : Value -> List UInt8
 | .string s => s.data.toList
 | _ => []
def hF (fs : List Fl) (n : List UInt8) : Nat := ((lookF fs n).map (·.bs.length)).getD 0
def sumE (fs : List Fl) (l : List MapEntry) : Nat := (l.map fun x => hF fs (kNm x.key)).sum
theorem perm_sum {l m : List Nat} (h : l.Perm m) : l.sum = m.sum := by
 induction h with
 | nil => rfl
 | cons a _ ih => rw [List.sum_cons, List.sum_cons, ih]
 | swap a b l => simp only [List.sum_cons]; omega
 | trans _ _ h1 h2 => exact h1.trans h2
theorem sumE_step (fs : List Fl) (seen : Array Nat) (e : MapEntry) (hs : seen.contains e.born = false) : ∀ (l : List MapEntry), (l.map (·.born)).Nodup -> e ∈ l ->
  sumE fs (l.filter fun x => !seen.contains x.born) = hF fs (kNm e.key) + sumE fs (l.filter fun x => !(seen.push e.born).contains x.born)
 | x :: l, hn, he => by
  obtain ⟨h1, h2⟩ := List.nodup_cons.1 hn
  have hp : ∀ y : MapEntry, (seen.push e.born).contains y.born = (seen.contains y.born || y.born == e.born) := fun y => contains_push seen e.born y.born
  rcases List.mem_cons.1 he with rfl | he
  · have hsame : (l.filter fun x => !(seen.push e.born).contains x.born) = l.filter fun x => !seen.contains x.born := List.filter_congr fun y hy => by
     rw [hp]
     have : (y.born == e.born) = false := by
      rw [beq_eq_false_iff_ne]
      exact fun h => h1 (List.mem_map.2 ⟨y, hy, h⟩)
     rw [this, Bool.or_false]
    have a1 : (!seen.contains e.born) = true := by rw [hs]; rfl
    have a2 : ¬ (!(seen.push e.born).contains e.born) = true := by rw [hp, hs]; simp
    rw [List.filter_cons_of_pos (p := fun x : MapEntry => !seen.contains x.born) a1, List.filter_cons_of_neg (p := fun x : MapEntry => !(seen.push e.born).contains x.born) a2, hsame]
    simp only [sumE, List.map_cons, List.sum_cons]
  · have hne : (x.born == e.born) = false := by
     rw [beq_eq_false_iff_ne]
     exact fun h => h1 (List.mem_map.2 ⟨e, he, h.symm⟩)
    have ih := sumE_step fs seen e hs l h2 he
    have hx : (!(seen.push e.born).contains x.born) = !seen.contains x.born := by rw [hp, hne, Bool.or_false]
    by_cases hc : (!seen.contains x.born) = true
    · rw [List.filter_cons_of_pos (p := fun x : MapEntry => !seen.contains x.born) hc, List.filter_cons_of_pos (p := fun x : MapEntry => !(seen.push e.born).contains x.born) (by rw [hx]; exact hc)]
      simp only [sumE, List.map_cons, List.sum_cons] at ih ⊢
      omega
    · rw [List.filter_cons_of_neg (p := fun x : MapEntry => !seen.contains x.born) hc, List.filter_cons_of_neg (p := fun x : MapEntry => !(seen.push e.born).contains x.born) (by rw [hx]; exact hc)]
      exact ih
theorem sum_names {fs : List Fl} (hr : Rise fs) : ∀ {l : List Fl}, (∀ f, f ∈ l -> f ∈ fs) -> ((l.map (·.nm)).map (hF fs)).sum = sumF l
 | [], _ => rfl
 | f :: l, h => by
  rw [List.map_cons, List.map_cons, List.sum_cons, sumF, sum_names hr fun g hg => h g (.tail _ hg)]
  congr 1
  unfold hF
  rw [hr.lookF (h f (.head _))]
  rfl
theorem only_iter {w w1 : World} {b : Nat} {o : Obj} (h : w1 = w ∨ w1 = w.drew) : Only [b] w (setBlock w1 b o) := by
 rcases h with rfl | rfl
 · exact ⟨rfl, rfl, rfl, by simp [setBlock], fun k hk hn => by
    show (w1.heap.setIfInBounds b o)[k]? = _
    rw [Array.getElem?_setIfInBounds_ne (by simpa using fun e => hn (by simp [e]))]⟩
 · exact ⟨rfl, rfl, rfl, by show w.heap.size <= (w.heap.setIfInBounds b o).size; simp, fun k hk hn => by
    show (w.heap.setIfInBounds b o)[k]? = _
    rw [Array.getElem?_setIfInBounds_ne (by simpa using fun e => hn (by simp [e]))]⟩
section
variable {w w' : World} {d r : Nat} {D : Dk} {tb : Tb} {F G : Nat -> Prop}
theorem free_c (h : DkP w d D r tb F) : Calls Try.prog 18 #[.pointer (some ⟨d, 0, none⟩)] w fun e w' => e = .returned (.int .i64 ((D.room : Int) - sumF D.fs)) /\ Only [] w w' := by
 refine ret (v6w ⟨d, 0, none⟩ (fun v w' => v = .int .i64 ((D.room : Int) - sumF D.fs) /\ Only [] w w') w ?_)
 unfold v6v
 obtain ⟨a, b, c, hb, _⟩ := h.blk
 obtain ⟨es, clock, m1, m2, m3, m4, m5⟩ := h.map.mem
 obtain ⟨st1, st2, st3⟩ := m2
 have hsum := h.inv.sum
 have hbig := h.inv.big
 have hkey : ∀ x, x ∈ es.toList -> ∃ k p s f, x.key = .string (T k) /\ kNm x.key = k /\ x.val = .pointer (some ⟨p, 0, none⟩) /\ tb k = some (p, s) /\ lookF D.fs k = some f /\ FileP w p s f := fun x hx => by
  obtain ⟨k, e1, _⟩ := m4 x hx
  have hm := (m5 k x.val).2 ⟨x, hx, e1, rfl⟩
  unfold mT at hm
  cases ht : tb k with
  | none => rw [ht] at hm; cases hm
  | some q =>
   rw [ht] at hm
   obtain ⟨f, hf⟩ := h.hasF ht
   refine ⟨k, q.1, q.2, f, e1, by rw [e1]; rfl, by simpa using hm.symm, ht, hf, h.fil k q.1 q.2 f ht hf⟩
 have hall : sumE D.fs es.toList = sumF D.fs := by
  have hp : (es.toList.map fun x => kNm x.key).Perm (D.fs.map (·.nm)) := by
   refine (List.perm_ext_iff_of_nodup ?_ ?_).2 fun n => ?_
   · refine List.pairwise_map.2 ((List.pairwise_map.1 st3).imp_of_mem fun {x y} hx hy hne he => hne ?_)
     obtain ⟨k, _, _, _, e1, e2, _⟩ := hkey x hx
     obtain ⟨l, _, _, _, g1, g2, _⟩ := hkey y hy
     rw [e1, g1, <- e2, <- g2, he]
   · exact (rise_map h.inv.rise).imp fun hlt he => by subst he; exact absurd hlt (List.lt_irrefl _)
   · constructor
     · intro hn
       obtain ⟨x, hx, rfl⟩ := List.mem_map.1 hn
       obtain ⟨k, p, s, f, e1, e2, _, _, hf, _⟩ := hkey x hx
       obtain ⟨g1, g2⟩ := lookF_mem hf
       exact List.mem_map.2 ⟨f, g1, by rw [e2, g2]⟩
     · intro hn
       obtain ⟨f, hf, rfl⟩ := List.mem_map.1 hn
       obtain ⟨p, s, ht, _⟩ := h.file (h.inv.rise.lookF hf)
       obtain ⟨x, hx, e1, _⟩ := (m5 f.nm (.pointer (some ⟨p, 0, none⟩))).1 (by unfold mT; rw [ht]; rfl)
       exact List.mem_map.2 ⟨x, hx, by rw [e1]; rfl⟩
  have := perm_sum (hp.map (hF D.fs))
  rw [List.map_map, sum_names h.inv.rise fun f hf => hf] at this
  exact this
 refine ⟨_, Blk.at1 hb 4 rfl, _, h.mp, _, _, run_range_map w 28 9 64 r es clock (by kernel_rfl) m1, ?_⟩
 have hO0 : Only [] w (w.alloc (.mapIter (some r) clock #[] clock)) := Only.alloc _ _
 have hi0 : (w.alloc (.mapIter (some r) clock #[] clock)).heap[w.heap.size]? = some (.mapIter (some r) clock #[] clock) := heap_alloc_new w _
 generalize w.alloc (.mapIter (some r) clock #[] clock) = w0 at *
 refine ⟨fun nv i u => ∃ seen c0, u.heap[w.heap.size]? = some (.mapIter (some r) clock seen c0) /\ clock <= c0 /\ Only [] w u /\ nv = (leftOf es seen).size /\ i = (D.room : Int) - sumF D.fs + sumE D.fs (leftOf es seen).toList /\ sumE D.fs (leftOf es seen).toList <= sumF D.fs, es.size, ⟨#[], clock, hi0, Nat.le_refl _, hO0, ?_, ?_, ?_⟩, ?_⟩
 · have : leftOf es #[] = es := by unfold leftOf; simp
   rw [this]
 · have : leftOf es #[] = es := by unfold leftOf; simp
   rw [this, hall]; omega
 · have : leftOf es #[] = es := by unfold leftOf; simp
   rw [this, hall]; exact Nat.le_refl _
 rintro nv i w1 ⟨seen, c0, hi, hc, hO1, rfl, rfl, hle⟩
 have hb1 : w1.heap[r]? = some (.map es clock) := (hO1.block r h.map.lt (by simp)).trans m1
 rcases run_next_at (P := Try.prog) w1 0 w.heap.size r clock c0 seen es clock hi hb1 (fun x hx => st1 x hx) hc with ⟨hz, hn⟩ | ⟨e, he, w2, hw2, hn⟩
 · left
   refine ⟨w1, hn, ?_, hO1⟩
   have : (leftOf es seen).toList = [] := List.eq_nil_of_length_eq_zero (by rw [Array.length_toList]; exact hz)
   rw [this]
   simp [sumE]
 · right
   obtain ⟨he1, he2⟩ := mem_left he
   obtain ⟨k, p, s, f, e1, e2, e3, e4, e5, e6⟩ := hkey e he1
   have hO3 := only_iter (b := w.heap.size) (o := .mapIter (some r) clock (seen.push e.born) clock) hw2
   have hi3 : (setBlock w2 w.heap.size (.mapIter (some r) clock (seen.push e.born) clock)).heap[w.heap.size]? = some (.mapIter (some r) clock (seen.push e.born) clock) := by
    show (w2.heap.setIfInBounds _ _)[_]? = _
    have hlt : w.heap.size < w2.heap.size := by
     have := (Array.getElem?_eq_some_iff.1 hi).1
     rcases hw2 with rfl | rfl
     · exact this
     · exact this
    rw [Array.getElem?_setIfInBounds_self_of_lt hlt]
   generalize setBlock w2 w.heap.size (.mapIter (some r) clock (seen.push e.born) clock) = w3 at *
   have hO13 : Only [] w w3 := hO1.trans hO3 (by simp)
   have hb3 : w3.heap[r]? = some (.map es clock) := (hO13.block r h.map.lt (by simp)).trans m1
   rw [e1, e3] at hn
   have hent := run_entry_at (P := Try.prog) w3 w.heap.size r clock seen es clock e hi3 hb3 he1 st2
   rw [e1, e3] at hent
   have hB := hO13.blk e6.blk (by simp)
   have hstep := sumE_step D.fs seen e he2 es.toList st2 he1
   have hl1 : (leftOf es seen).toList = es.toList.filter fun x => !seen.contains x.born := by unfold leftOf; simp
   have hl2 : (leftOf es (seen.push e.born)).toList = es.toList.filter fun x => !(seen.push e.born).contains x.born := by unfold leftOf; simp
   rw [<- hl1, <- hl2] at hstep
   have hlen := e6.row.sl.len
   have hf : hF D.fs (kNm e.key) = s.n := by
    unfold hF
    rw [e2, e5, hlen]; rfl
   rw [hf] at hstep
   refine ⟨T k, _, w3, hn, T k, _, w3, hent, _, rfl, s, Blk.at1 hB 0 rfl, _, left_shrinks es seen e he, seen.push e.born, clock, hi3, Nat.le_refl _, hO13, rfl, ?_, ?_⟩
   · rw [wr' (by omega) (by omega)]
     omega
   · omega
end
end Go.Proofs.Ytijipkdbkgafkaa.Con
namespace Go.Proofs.Ytijipkdbkgafkaa.Con
open Go Go.RowKit Go.Kt Go.Kt.V Go.Proofs.Ytijipkdbkgafkaa.Vc
set_option linter.unusedSimpArgs false
set_option linter.unusedVariables false
set_option maxHeartbeats 1000000
def goesP (D : Dk) : Bool := match (cutP D).1 with
 | none => true
 | some p => decide (p.tmod 2 ≠ 0)
theorem goesP_eq (D : Dk) : ((!(cutP D).1.isSome) || (((cutP D).1.getD 0).tmod 2 != 0)) = goesP D := by
 unfold goesP
 cases (cutP D).1 with
 | none => rfl
 | some p =>
  by_cases hp : p.tmod 2 = 0 <;> simp [hp]
def codeP (D : Dk) : Int := if (cutP D).1.isSome then 50 else 0
theorem wholeD_eq (D : Dk) (op : List Fl -> List Fl) : wholeD D op = (codeP D, if goesP D = true then setFs (cutP D).2 (op (cutP D).2.fs) else (cutP D).2) := by
 unfold wholeD codeP goesP
 rcases cutP D with ⟨g, E⟩
 cases g with
 | none => rfl
 | some p => simp only [Option.isSome_some, if_true, decide_eq_true_eq]
def Dsk (w : World) (d : Nat) (D : Dk) (F : Nat -> Prop) : Prop := ∃ r tb, DkP w d D r tb F
section
variable {w w' : World} {d r : Nat} {D E : Dk} {tb : Tb} {F G : Nat -> Prop} {p : Nat} {sl : Sl} {f : Fl} {s : List UInt8}
theorem Dsk.gr {u : World} (h : DkP w' d D r tb (fun x => F x ∨ u.heap.size <= x)) : Dsk w' d D (Gr F u w') := ⟨r, tb, h.mono fun x hx hf => hf.imp id fun h => ⟨h, hx⟩⟩
theorem Dsk.gr0 {u : World} (h : DkP w' d D r tb F) : Dsk w' d D (Gr F u w') := ⟨r, tb, h.mono fun x _ hf => .inl hf⟩
theorem whole_c (h : DkP w d D r tb F) {g : FuncId} {caps : List Value} {Q : World -> Prop} (hen : ∀ (args : Array Value) (w : World), (callFunc g args).run Try.prog w = .ok (.enter g args) w)
  (hC : ∀ u, DkP u d (cutP D).2 r tb F -> Only [d] w u -> Calls Try.prog g caps.toArray u fun e u' => e = .returned (.tuple #[]) /\ Q u') :
  Calls Try.prog 32 #[.pointer (some ⟨d, 0, none⟩), .func (.func g) #[] caps.toArray] w fun e w' => e = .returned (.int .i64 (codeP D)) /\ (if goesP D = true then Q w' else DkP w' d (cutP D).2 r tb F /\ Only [d] w w') := by
 refine ret (v14w ⟨d, 0, none⟩ ⟨.func (.func g) #[] caps.toArray, rfl⟩ (fun v w' => v = .int .i64 (codeP D) /\ (if goesP D = true then Q w' else DkP w' d (cutP D).2 r tb F /\ Only [d] w w')) w ?_)
 unfold v14v
 refine (pcut_c h).mono ?_
 rintro _ w0 ⟨rfl, h0, hO⟩
 refine ⟨_, _, rfl, fun u => (if goesP D = true then Q u else DkP u d (cutP D).2 r tb F /\ Only [d] w u), fun w1 hJ => ⟨fun hb => ⟨by unfold codeP; rw [if_pos hb], hJ⟩, fun hb => ⟨by unfold codeP; rw [if_neg (by rw [hb]; simp)], hJ⟩⟩, fun hc => ?_, fun hc => ?_⟩
 · rw [goesP_eq] at hc
   refine ⟨g, [], caps, rfl, hen, (hC w0 h0 hO).mono ?_⟩
   rintro _ u' ⟨rfl, hQ⟩
   exact ⟨rfl, by show (if goesP D = true then Q u' else _); rw [if_pos hc]; exact hQ⟩
 · rw [goesP_eq] at hc
   show (if goesP D = true then Q w0 else _)
   rw [if_neg (by rw [hc]; simp)]
   exact ⟨h0, hO⟩
theorem sum_same {l : List Fl} (hr : Rise l) (hf : lookF l s = some f) {f' : Fl} (hn : f'.nm = s) (hl : f'.bs.length <= f.bs.length) : sumF (putF f' l) <= sumF l := by
 have := putF_sum f' hr
 rw [hn, hf] at this
 simp only [Option.map_some, Option.getD_some] at this
 omega
theorem cutcl_c {u : World} (h : DkP u d E r tb F) {n : Nat} (ht : tb s = some (p, sl)) (hf : lookF E.fs s = some f) (hn : n <= f.bs.length) {k0 k2 : Nat} {t0 t2 : TypeId} (hB2 : Blk u k2 t2 [.pointer (some ⟨p, 0, none⟩)]) (hB0 : Blk u k0 t0 [.int .i64 (n : Int)]) (hp2 : p ≠ k2) (hp0 : p ≠ k0) :
  Calls Try.prog 33 #[.pointer (some ⟨k2, 0, none⟩), .pointer (some ⟨k0, 0, none⟩)] u fun e u' => e = .returned (.tuple #[]) /\ DkP u' d (setFs E (putF ⟨s, f.bs.take n, min n f.sf⟩ E.fs)) r (updT tb s (p, sl.cut 0 n n 1)) (fun x => F x ∨ u.heap.size <= x) /\ OnlyP F u u' := by
 refine ret (v3w ⟨k2, 0, none⟩ ⟨k0, 0, none⟩ (fun v u' => v = .tuple #[] /\ DkP u' d (setFs E (putF ⟨s, f.bs.take n, min n f.sf⟩ E.fs)) r (updT tb s (p, sl.cut 0 n n 1)) (fun x => F x ∨ u.heap.size <= x) /\ OnlyP F u u') u ?_)
 unfold v3v
 intro w0 hO0
 have c2 := hO0.blk hB2 (by simp)
 have c0 := hO0.blk hB0 (by simp)
 have h0 := h.only0 hO0
 have hF := h0.fil s p sl f ht hf
 have hfb := hF.blk
 have hln := hF.row.sl.len
 have hcp := hF.row.sl.cap
 have q2 : Cells w0 ⟨k2, 0, none⟩ [.pointer (some ⟨p, 0, none⟩)] := Blk.at1 c2 0 rfl
 have q0 : Cells w0 ⟨k0, 0, none⟩ [.int .i64 (n : Int)] := Blk.at1 c0 0 rfl
 have hpF : F p := (h.out s p ⟨p, sl, ht, .inl rfl⟩).2.2
 have kk : ∀ {u u' : World}, Only [p] u u' -> Keeps (fun k => k = k2 ∨ k = k0) u u' := fun hO k hk hlt => hO.block k hlt (by simp; omega)
 refine ⟨fun k => k = k2 ∨ k = k0, _, q2, .inl rfl, _, q2, _, q2, _, rfl, _, Blk.at1 hfb 0 rfl, _, q0, _, q0, n, n, ⟨rfl, rfl, Nat.le_refl _, by omega⟩, _, q2, _, rfl, _, Blk.at1 hfb 1 rfl, .inr rfl, _, q0, _, rfl, p, 0, _, _, rfl, hfb, by simp, fun w1 hO1 hB1 => ⟨kk hO1, _, rfl, p, 1, _, _, rfl, hB1, by simp [splice], fun w2 hO2 hB2 => ⟨kk hO2, rfl, ?_, ?_⟩⟩⟩
 · have o : Only [p] w0 w2 := hO1.trans hO2 fun x hx => .inl hx
   have hB2' : Blk w2 p 66 [(sl.cut 0 n n 1).v, .int .i64 ((min n f.sf : Nat) : Int)] := by
    have e : (if (n : Int) < (f.sf : Int) then (n : Int) else (f.sf : Int)) = ((min n f.sf : Nat) : Int) := by split <;> omega
    rw [e] at hB2
    exact hB2
   have hca : ∀ x, (sl.cut 0 n n 1).a = some ⟨x, 0, none⟩ -> sl.a = some ⟨x, 0, none⟩ := fun x hx => by
    unfold Sl.cut at hx
    dsimp only at hx
    rw [Nat.zero_mul] at hx
    split at hx
    · exact hx
    · cases ha : sl.a with
      | none => rw [ha] at hx; cases hx
      | some g => rw [ha] at hx; simpa [addr_zero] using hx
   have hrow : RowB w2 (sl.cut 0 n n 1) (f.bs.take n) := (hF.row.cut (by omega)).keep fun x hx hlt => o.block x hlt (by simp only [List.mem_singleton]; rintro rfl; exact hF.ne (hca _ hx))
   have hsum := sum_same (s := s) h0.inv.rise hf (f' := ⟨s, f.bs.take n, min n f.sf⟩) rfl (by dsimp only; rw [List.length_take]; omega)
   have := h0.setFile (f' := ⟨s, f.bs.take n, min n f.sf⟩) (s' := sl.cut 0 n n 1) ht rfl (o.p fun b hb => .inl (.inl (by simpa using hb))) ⟨hB2', hrow, fun hx => hF.ne (hca _ hx)⟩ (fun x hx => .inl (hca x hx))
    (h0.inv.put (by dsimp only; rw [List.length_take]; have := h0.inv.safe f (lookF_mem hf).1; omega) (by have := h0.inv.nam f (lookF_mem hf).1; rw [(lookF_mem hf).2] at this; exact this) (Nat.le_trans hsum h0.inv.sum))
   exact this.mono fun x _ hx => hx.imp id fun h => Nat.le_trans hO0.size h
 · exact hO0.trP ((hO1.trans hO2 fun x hx => .inl hx).p fun b hb => .inl (by simp at hb; rw [hb]; exact hpF))
def Aft (d : Nat) (D' : Dk) (F : Nat -> Prop) (w w' : World) : Prop := Dsk w' d D' (Gr F w w') /\ OnlyP F w w'
theorem Aft.mono {D' : Dk} (h : Aft d D' F w w') (hF : ∀ x, F x -> G x) : Aft d D' G w w' := by
 obtain ⟨⟨r, tb, h1⟩, h2⟩ := h
 exact ⟨⟨r, tb, h1.mono fun x _ hx => hx.imp (hF x) id⟩, h2.mono fun k _ hk => hF k hk⟩
theorem DkP.heap (h : DkP w d D r tb F) : DkP w d D r tb (fun x => F x /\ x < w.heap.size) := h.mono fun x hx hf => ⟨hf, hx⟩
theorem Aft.same (h : DkP w d D r tb F) (hO : Only [] w w') : Aft d D F w w' := ⟨Dsk.gr0 (h.only0 hO), hO.p0⟩
theorem sync_c (h : DkP w d D r tb F) (s : List UInt8) : Calls Try.prog 14 #[.pointer (some ⟨d, 0, none⟩), .string (T s)] w fun e w' => e = .returned (.int .i64 (syncD D s).1) /\ Aft d (syncD D s).2 F w w' := by
 refine ret (v12w ⟨d, 0, none⟩ (T s) (fun v w' => v = .int .i64 (syncD D s).1 /\ Aft d (syncD D s).2 F w w') w ?_)
 unfold v12v
 refine (find_c h s).mono ?_
 rintro _ w0 ⟨⟨q, rfl, hq⟩, hu⟩
 obtain rfl : w = w0 := hu.symm
 refine ⟨_, _, rfl, fun hc => ?_, fun hc => ?_⟩
 · have hc : findE D s ≠ 0 := by simpa using hc
   have e : syncD D s = (findE D s, D) := by unfold syncD; rw [if_pos hc]
   rw [e]
   exact ⟨rfl, Aft.same h (Only.refl _ _)⟩
 · have hc : findE D s = 0 := by simpa using hc
   obtain ⟨ho, p, sl, f, ht, hf, rfl, hF⟩ := hq hc
   refine (pcut_c h).mono ?_
   rintro _ w1 ⟨rfl, h1, hO1⟩
   have eg := getF_some hf
   obtain ⟨e1, e2⟩ := cutP_fs D
   have e : syncD D s = (codeP D, if (cutP D).1.isSome then (cutP D).2 else setFs (cutP D).2 (putF { f with sf := f.bs.length } (cutP D).2.fs)) := by
    unfold syncD codeP
    rw [if_neg (by simpa using hc), eg]
    rcases cutP D with ⟨g, E⟩
    cases g <;> rfl
   have odF : OnlyP F w w1 := hO1.p fun b hb => .inl (by simp at hb; rw [hb]; exact h.dr.2.1)
   rw [e]
   unfold codeP
   refine ⟨_, _, rfl, fun hb => ?_, fun hb => ?_⟩
   · rw [if_pos hb, if_pos hb]
     exact ⟨rfl, Dsk.gr0 h1, odF⟩
   · rw [if_neg (by rw [hb]; simp), if_neg (by rw [hb]; simp)]
     have hf1 : lookF (cutP D).2.fs s = some f := by rw [e1]; exact hf
     have hF1 := h1.fil s p sl f ht hf1
     refine ⟨_, rfl, _, Blk.at1 hF1.blk 0 rfl, _, rfl, p, 1, _, _, rfl, hF1.blk, by simp, fun w2 hO2 hB2 => ⟨rfl, ?_⟩⟩
     have hB2' : Blk w2 p 66 [sl.v, .int .i64 ((f.bs.length : Nat) : Int)] := by rw [<- hF1.row.sl.len]; exact hB2
     have hnm := (lookF_mem hf).2
     have := h1.setFile (f' := { f with sf := f.bs.length }) (s' := sl) ht hnm (hO2.p fun b hb => .inl (.inl (by simpa using hb))) ⟨hB2', hF1.row.keep fun x hx hlt => hO2.block x hlt (by simp only [List.mem_singleton]; rintro rfl; exact hF1.ne hx), hF1.ne⟩ (fun x hx => .inl hx)
      (h1.inv.put (Nat.le_refl _) (h1.inv.nam f (lookF_mem hf1).1) (Nat.le_trans (sum_same (s := s) h1.inv.rise hf1 hnm (Nat.le_refl _)) h1.inv.sum))
     exact ⟨Dsk.gr (this.mono fun x _ hx => hx.imp id fun h => Nat.le_trans hO1.size h), odF.trans (hO2.p (F := F) fun b hb => .inl (by simp at hb; rw [hb]; exact (h.out s p ⟨p, sl, ht, .inl rfl⟩).2.2)) fun k hk => .inl hk⟩
theorem cut_c0 (h : DkP w d D r tb F) (hFh : ∀ x, F x -> x < w.heap.size) (s : List UInt8) {n : Int} (hi : InI n) : Calls Try.prog 15 #[.pointer (some ⟨d, 0, none⟩), .string (T s), .int .i64 n] w fun e w' => e = .returned (.int .i64 (cutD D s n).1) /\ Aft d (cutD D s n).2 F w w' := by
 refine ret (v4w ⟨d, 0, none⟩ (T s) n (fun v w' => v = .int .i64 (cutD D s n).1 /\ Aft d (cutD D s n).2 F w w') w ?_)
 unfold v4v
 intro k0 w0 hk0 hk0' hO0
 have z0 := hO0.size
 refine (find_c (h.only0 hO0) s).mono ?_
 rintro _ w1 ⟨⟨q, rfl, hq⟩, hu⟩
 obtain rfl : w0 = w1 := hu.symm
 refine ⟨_, _, rfl, Same.refl _ _, fun hc k1 w2 _ _ hO2 => ?_, fun hc k2 w3 hk2 hk2' hO3 => ?_⟩
 · have hc : findE D s ≠ 0 := by simpa using hc
   have e : cutD D s n = (findE D s, D) := by unfold cutD; rw [if_pos hc]
   rw [e]
   exact ⟨rfl, Aft.same h (hO0.tr0 hO2)⟩
 · have hc : findE D s = 0 := by simpa using hc
   obtain ⟨ho, p, sl, f, ht, hf, rfl, hF⟩ := hq hc
   have z3 := hO3.size
   have o3 := hO0.tr0 hO3
   have h3 := h.only0 o3
   have hF3 := h3.fil s p sl f ht hf
   have eg := getF_some hf
   have hln := hF3.row.sl.len
   have hbg := hF3.row.sl.big
   have hplt : p < w.heap.size := h.lt (k := s) ⟨p, sl, ht, .inl rfl⟩
   refine ⟨_, fun _ => rfl, _, fun _ => Blk.at1 hF3.blk 0 rfl, fun hb w4 hO4 => ?_, fun hb w5 hO5 hB0 hB2 => ?_⟩
   · simp only [Bool.or_eq_true, decide_eq_true_eq] at hb
     have e : cutD D s n = (1, D) := by unfold cutD; rw [if_neg (by simpa using hc), eg, if_pos (by omega)]
     rw [e]
     exact ⟨rfl, Aft.same h (o3.tr0 hO4)⟩
   · simp only [Bool.or_eq_false_iff, decide_eq_false_iff_not] at hb
     have e : cutD D s n = wholeD D fun l => putF ⟨s, f.bs.take n.toNat, min n.toNat f.sf⟩ l := by unfold cutD; rw [if_neg (by simpa using hc), eg, if_neg (by omega)]
     have z5 := hO5.size
     have o5 := o3.tr0 hO5
     have h5 := h.only0 o5
     obtain ⟨e1, e2⟩ := cutP_fs D
     obtain ⟨n, rfl⟩ : ∃ m : Nat, n = (m : Int) := ⟨n.toNat, by omega⟩
     rw [e, wholeD_eq]
     refine (whole_c h5 (g := 33) (caps := [.pointer (some ⟨k2, 0, none⟩), .pointer (some ⟨k0, 0, none⟩)]) (Q := fun u' => DkP u' d (setFs (cutP D).2 (putF ⟨s, f.bs.take n, min n f.sf⟩ (cutP D).2.fs)) r (updT tb s (p, sl.cut 0 n n 1)) (fun x => F x ∨ w5.heap.size <= x) /\ OnlyP F w5 u' /\ Blk u' k0 3 [.int .i64 (n : Int)] /\ Blk u' k2 64 [.pointer (some ⟨p, 0, none⟩)]) (enters_of Try.func33 (by kernel_rfl) rfl) fun u hu hOu => ?_).mono ?_
     · have nd0 : k0 ≠ d := fun e => by have := h.dlt; omega
       have nd2 : k2 ≠ d := fun e => by have := h.dlt; omega
       have hb0 := hOu.blk hB0 (by simpa using nd0)
       have hb2 := hOu.blk hB2 (by simpa using nd2)
       have zu := hOu.size
       have oF : OnlyP F w5 u := hOu.p fun b hb => .inl (by simp at hb; rw [hb]; exact h.dr.2.1)
       refine (cutcl_c hu ht (by rw [e1]; exact hf) (by omega) hb2 hb0 (by omega) (by omega)).mono ?_
       rintro _ u' ⟨rfl, y1, y2⟩
       refine ⟨rfl, y1.mono fun x _ hx => hx.imp id fun h => Nat.le_trans zu h, oF.trans y2 fun k hk => .inl hk, ?_, ?_⟩
       · have : OnlyP F w5 u' := oF.trans y2 fun k hk => .inl hk
         exact this.blk hB0 fun hh => by have := hFh _ hh; omega
       · have : OnlyP F w5 u' := oF.trans y2 fun k hk => .inl hk
         exact this.blk hB2 fun hh => by have := hFh _ hh; omega
     · rintro _ w6 ⟨rfl, hif⟩
       refine ⟨_, rfl, ?_⟩
       by_cases hg : goesP D = true
       · rw [if_pos hg] at hif ⊢
         obtain ⟨y1, y2, y3, y4⟩ := hif
         exact ⟨_, y3, _, y4, rfl, Dsk.gr (y1.mono fun x _ hx => hx.imp id fun h => by omega), o5.trP y2⟩
       · rw [if_neg hg] at hif ⊢
         obtain ⟨y1, y2⟩ := hif
         exact ⟨_, y2.blk hB0 (by simp; have := h.dlt; omega), _, y2.blk hB2 (by simp; have := h.dlt; omega), rfl, Dsk.gr0 y1, o5.trP (y2.p fun b hb => .inl (by simp at hb; rw [hb]; exact h.dr.2.1))⟩
theorem cut_c (h : DkP w d D r tb F) (s : List UInt8) {n : Int} (hi : InI n) : Calls Try.prog 15 #[.pointer (some ⟨d, 0, none⟩), .string (T s), .int .i64 n] w fun e w' => e = .returned (.int .i64 (cutD D s n).1) /\ Aft d (cutD D s n).2 F w w' :=
 (cut_c0 h.heap (fun _ hx => hx.2) s hi).mono fun _ _ hh => ⟨hh.1, hh.2.mono fun _ hx => hx.1⟩
theorem remcl_c {u : World} (h : DkP u d E r tb F) (s : List UInt8) {k0 k1 : Nat} {t0 t1 : TypeId} (hB0 : Blk u k0 t0 [.pointer (some ⟨d, 0, none⟩)]) (hB1 : Blk u k1 t1 [.string (T s)]) :
  Calls Try.prog 35 #[.pointer (some ⟨k0, 0, none⟩), .pointer (some ⟨k1, 0, none⟩)] u fun e u' => e = .returned (.tuple #[]) /\ DkP u' d (setFs E (dropF s E.fs)) r (fun x => if x = s then none else tb x) F /\ OnlyP F u u' := by
 refine ret (v8w ⟨k0, 0, none⟩ ⟨k1, 0, none⟩ (fun v u' => v = .tuple #[] /\ DkP u' d (setFs E (dropF s E.fs)) r (fun x => if x = s then none else tb x) F /\ OnlyP F u u') u ?_)
 unfold v8v
 intro w0 hO0
 have h0 := h.only0 hO0
 have q0 : Cells w0 ⟨k0, 0, none⟩ [.pointer (some ⟨d, 0, none⟩)] := Blk.at1 (hO0.blk hB0 (by simp)) 0 rfl
 have q1 : Cells w0 ⟨k1, 0, none⟩ [.string (T s)] := Blk.at1 (hO0.blk hB1 (by simp)) 0 rfl
 obtain ⟨w1, e1, e2, e3⟩ := h0.map.delete (P := Try.prog) (mty := 28) (kt := 9) (et := 64) keyS (by kernel_rfl) (by kernel_rfl) s 0
 exact ⟨_, q0, _, rfl, _, h0.mp, _, q1, w1, e1, rfl, h0.delKey e3 e2, hO0.trP (e3.p fun b hb => .inl (by simp at hb; rw [hb]; exact h.dr.2.2))⟩
theorem remove_c0 (h : DkP w d D r tb F) (hFh : ∀ x, F x -> x < w.heap.size) (s : List UInt8) : Calls Try.prog 17 #[.pointer (some ⟨d, 0, none⟩), .string (T s)] w fun e w' => e = .returned (.int .i64 (remD D s).1) /\ Aft d (remD D s).2 F w w' := by
 refine ret (v9w ⟨d, 0, none⟩ (T s) (fun v w' => v = .int .i64 (remD D s).1 /\ Aft d (remD D s).2 F w w') w ?_)
 unfold v9v
 intro k0 k1 w0 hk0 hk0' hk1 hk1' hO0
 have z0 := hO0.size
 refine (find_c (h.only0 hO0) s).mono ?_
 rintro _ w1 ⟨⟨q, rfl, hq⟩, hu⟩
 obtain rfl : w0 = w1 := hu.symm
 refine ⟨_, _, rfl, Same.refl _ _, fun hc => ?_, fun hc hB0 hB1 => ?_⟩
 · have hc : findE D s ≠ 0 := by simpa using hc
   have e : remD D s = (findE D s, D) := by unfold remD; rw [if_pos hc]
   rw [e]
   exact ⟨rfl, Aft.same h hO0⟩
 · have hc : findE D s = 0 := by simpa using hc
   have e : remD D s = wholeD D fun l => dropF s l := by unfold remD; rw [if_neg (by simpa using hc)]
   have h0 := h.only0 hO0
   rw [e, wholeD_eq]
   refine (whole_c h0 (g := 35) (caps := [.pointer (some ⟨k0, 0, none⟩), .pointer (some ⟨k1, 0, none⟩)]) (Q := fun u' => DkP u' d (setFs (cutP D).2 (dropF s (cutP D).2.fs)) r (fun x => if x = s then none else tb x) F /\ OnlyP F w0 u') (enters_of Try.func35 (by kernel_rfl) rfl) fun u hu hOu => ?_).mono ?_
   · have hb0 := hOu.blk hB0 (by simp; have := h.dlt; omega)
     have hb1 := hOu.blk hB1 (by simp; have := h.dlt; omega)
     refine (remcl_c hu s hb0 hb1).mono ?_
     rintro _ u' ⟨rfl, y1, y2⟩
     exact ⟨rfl, y1, (hOu.p fun b hb => .inl (by simp at hb; rw [hb]; exact h.dr.2.1)).trans y2 fun k hk => .inl hk⟩
   · rintro _ w6 ⟨rfl, hif⟩
     refine ⟨_, rfl, ?_⟩
     by_cases hg : goesP D = true
     · rw [if_pos hg] at hif ⊢
       obtain ⟨y1, y2⟩ := hif
       exact ⟨_, y2.blk hB0 (fun hh => by have := hFh _ hh; omega), _, y2.blk hB1 (fun hh => by have := hFh _ hh; omega), rfl, Dsk.gr0 y1, hO0.trP y2⟩
     · rw [if_neg hg] at hif ⊢
       obtain ⟨y1, y2⟩ := hif
       exact ⟨_, y2.blk hB0 (by simp; have := h.dlt; omega), _, y2.blk hB1 (by simp; have := h.dlt; omega), rfl, Dsk.gr0 y1, hO0.trP (y2.p fun b hb => .inl (by simp at hb; rw [hb]; exact h.dr.2.1))⟩
theorem remove_c (h : DkP w d D r tb F) (s : List UInt8) : Calls Try.prog 17 #[.pointer (some ⟨d, 0, none⟩), .string (T s)] w fun e w' => e = .returned (.int .i64 (remD D s).1) /\ Aft d (remD D s).2 F w w' :=
 (remove_c0 h.heap (fun _ hx => hx.2) s).mono fun _ _ hh => ⟨hh.1, hh.2.mono fun _ hx => hx.1⟩
end
section
variable {w w' : World} {d r : Nat} {D E : Dk} {tb : Tb} {F G : Nat -> Prop} {p : Nat} {sl : Sl} {f : Fl} {a b s : List UInt8}
theorem gS_of {s : List UInt8} (h : nameK s = true) : gS s := by
 unfold nameK at h
 simp only [Bool.and_eq_true, decide_eq_true_eq] at h
 have : maxLen = 9223372036854775807 := rfl
 show s.length <= maxLen
 omega
theorem rencl_c {u : World} (h : DkP u d E r tb F) (ht : tb a = some (p, sl)) (hf : lookF E.fs a = some f) (hab : a ≠ b) (hb : nameK b = true) {k0 k1 k2 k3 : Nat} {t0 t1 t2 t3 : TypeId} (hB0 : Blk u k0 t0 [.pointer (some ⟨d, 0, none⟩)]) (hB1 : Blk u k1 t1 [.string (T a)])
  (hB2 : Blk u k2 t2 [.pointer (some ⟨p, 0, none⟩)]) (hB3 : Blk u k3 t3 [.string (T b)]) (hn : k0 ≠ r /\ k1 ≠ r /\ k2 ≠ r /\ k3 ≠ r) :
  Calls Try.prog 34 #[.pointer (some ⟨k0, 0, none⟩), .pointer (some ⟨k1, 0, none⟩), .pointer (some ⟨k2, 0, none⟩), .pointer (some ⟨k3, 0, none⟩)] u fun e u' => e = .returned (.tuple #[]) /\ DkP u' d (setFs E (putF { f with nm := b } (dropF a E.fs))) r (updT (fun x => if x = a then none else tb x) b (p, sl)) F /\ OnlyP F u u' := by
 refine ret (v10w ⟨k0, 0, none⟩ ⟨k1, 0, none⟩ ⟨k2, 0, none⟩ ⟨k3, 0, none⟩ (fun v u' => v = .tuple #[] /\ DkP u' d (setFs E (putF { f with nm := b } (dropF a E.fs))) r (updT (fun x => if x = a then none else tb x) b (p, sl)) F /\ OnlyP F u u') u ?_)
 unfold v10v
 intro w0 hO0
 have h0 := h.only0 hO0
 have q0 : Cells w0 ⟨k0, 0, none⟩ [.pointer (some ⟨d, 0, none⟩)] := Blk.at1 (hO0.blk hB0 (by simp)) 0 rfl
 have q1 : Cells w0 ⟨k1, 0, none⟩ [.string (T a)] := Blk.at1 (hO0.blk hB1 (by simp)) 0 rfl
 obtain ⟨w1, e1, e2, e3⟩ := h0.map.delete (P := Try.prog) (mty := 28) (kt := 9) (et := 64) keyS (by kernel_rfl) (by kernel_rfl) a 0
 refine ⟨_, q0, _, rfl, _, h0.mp, _, q1, w1, e1, fun w2 hO2 => ?_⟩
 have h1 := h0.delKey e3 e2
 have h2 := h1.only0 hO2
 have o2 : Only [r] u w2 := ((hO0.weaken (bs' := [r]) fun _ h => by cases h).trans e3 fun x hx => .inl hx).tr0 hO2
 have p0 : Cells w2 ⟨k0, 0, none⟩ [.pointer (some ⟨d, 0, none⟩)] := Blk.at1 (o2.blk hB0 (by simp [hn.1])) 0 rfl
 have p2 : Cells w2 ⟨k2, 0, none⟩ [.pointer (some ⟨p, 0, none⟩)] := Blk.at1 (o2.blk hB2 (by simp [hn.2.2.1])) 0 rfl
 have p3 : Cells w2 ⟨k3, 0, none⟩ [.string (T b)] := Blk.at1 (o2.blk hB3 (by simp [hn.2.2.2])) 0 rfl
 obtain ⟨w3, g1, g2, g3⟩ := h2.map.update (P := Try.prog) (mty := 28) (kt := 9) (et := 64) (k := b) keyS (by kernel_rfl) (by kernel_rfl) (gS_of hb) (.pointer (some ⟨p, 0, none⟩))
 have hF2 := ((h.fil a p sl f ht hf).keep (w' := w2) fun x hx hlt => o2.block x hlt (by simpa using (h.out a x ⟨p, sl, ht, hx⟩).2.1)).keep (w' := w3) fun x hx hlt => g3.block x hlt (by simpa using (h.out a x ⟨p, sl, ht, hx⟩).2.1)
 have hsum : sumF (putF { f with nm := b } (dropF a E.fs)) <= E.room := by
  have s1 := putF_sum { f with nm := b } (dropF_rise a h.inv.rise)
  have s2 := dropF_sum h.inv.rise hf
  have s3 := h.inv.sum
  dsimp only at s1
  omega
 have := h2.addKey (G := F) (f := { f with nm := b }) g3 rfl (fun _ h => h) g2 ⟨hF2.blk, hF2.row, hF2.ne⟩ (fun x hx => ⟨(h.out a x ⟨p, sl, ht, hx⟩).1, (h.out a x ⟨p, sl, ht, hx⟩).2.1, (h.out a x ⟨p, sl, ht, hx⟩).2.2, fun l hl hin => by
   obtain ⟨q, t, e, hq⟩ := hin
   dsimp only at e
   split at e
   · cases e
   · rename_i hla
     exact hla (h.dis l a x ⟨q, t, e, hq⟩ ⟨p, sl, ht, hx⟩)⟩) (h2.inv.put (h.inv.safe f (lookF_mem hf).1) hb hsum)
 refine ⟨_, p0, _, rfl, _, h2.mp, _, p3, _, p2, w3, g1, rfl, this, ?_⟩
 exact (o2.p (F := F) fun x hx => .inl (by simp at hx; rw [hx]; exact h.dr.2.2)).trans (g3.p (F := F) fun x hx => .inl (by simp at hx; rw [hx]; exact h.dr.2.2)) fun k hk => .inl hk
theorem rename_c0 (h : DkP w d D r tb F) (hFh : ∀ x, F x -> x < w.heap.size) (a b : List UInt8) : Calls Try.prog 16 #[.pointer (some ⟨d, 0, none⟩), .string (T a), .string (T b)] w fun e w' => e = .returned (.int .i64 (renD D a b).1) /\ Aft d (renD D a b).2 F w w' := by
 refine ret (v11w ⟨d, 0, none⟩ (T a) (T b) (fun v w' => v = .int .i64 (renD D a b).1 /\ Aft d (renD D a b).2 F w w') w ?_)
 unfold v11v
 intro k0 k1 k2 w0 hk0 hk0' hk1 hk1' hk2 hk2' hO0
 have z0 := hO0.size
 refine (find_c (h.only0 hO0) a).mono ?_
 rintro _ w1 ⟨⟨q, rfl, hq⟩, hu⟩
 obtain rfl : w0 = w1 := hu.symm
 refine ⟨_, _, rfl, Same.refl _ _, fun hc k3 w2 _ _ hO2 => ?_, fun hc k4 w3 hk4 hk4' hO3 => (name_c b).mono ?_⟩
 · have hc : findE D a ≠ 0 := by simpa using hc
   have e : renD D a b = (findE D a, D) := by unfold renD; rw [if_pos hc]
   rw [e]
   exact ⟨rfl, Aft.same h (hO0.tr0 hO2)⟩
 · rintro _ w4 ⟨rfl, hu⟩
   obtain rfl : w3 = w4 := hu.symm
   have hc : findE D a = 0 := by simpa using hc
   obtain ⟨ho, p, sl, f, ht, hf, rfl, hF⟩ := hq hc
   have eg := getF_some hf
   have z3 := hO3.size
   have o3 := hO0.tr0 hO3
   have eab : ((T a).toList == (T b).toList) = decide (a = b) := by
    rw [Lib.toList_data, Lib.toList_data, Bool.eq_iff_iff]
    simp
   refine ⟨_, rfl, Same.refl _ _, fun hb => ?_, fun hb hB0 hB1 hB2 hB4 => ?_⟩
   · rw [eab] at hb
     simp only [Bool.or_eq_true, Bool.not_eq_true', decide_eq_true_eq] at hb
     have e : renD D a b = (1, D) := by unfold renD; rw [if_neg (by simpa using hc), if_pos hb]
     rw [e]
     exact ⟨rfl, Aft.same h o3⟩
   · rw [eab] at hb
     simp only [Bool.or_eq_false_iff, Bool.not_eq_false', decide_eq_false_iff_not] at hb
     have e : renD D a b = wholeD D fun l => putF { f with nm := b } (dropF a l) := by unfold renD; rw [if_neg (by simpa using hc), if_neg (by simp [hb.1, hb.2]), eg]
     obtain ⟨e1, e2⟩ := cutP_fs D
     have h3 := h.only0 o3
     have rlt := h.map.lt
     rw [e, wholeD_eq]
     refine (whole_c h3 (g := 34) (caps := [.pointer (some ⟨k0, 0, none⟩), .pointer (some ⟨k1, 0, none⟩), .pointer (some ⟨k4, 0, none⟩), .pointer (some ⟨k2, 0, none⟩)]) (Q := fun u' => DkP u' d (setFs (cutP D).2 (putF { f with nm := b } (dropF a (cutP D).2.fs))) r (updT (fun x => if x = a then none else tb x) b (p, sl)) F /\ OnlyP F w3 u') (enters_of Try.func34 (by kernel_rfl) rfl) fun u hu hOu => ?_).mono ?_
     · have dl := h.dlt
       refine (rencl_c hu ht (by rw [e1]; exact hf) hb.2 hb.1 (hOu.blk hB0 (by simp; omega)) (hOu.blk hB1 (by simp; omega)) (hOu.blk hB4 (by simp; omega)) (hOu.blk hB2 (by simp; omega)) (by omega)).mono ?_
       rintro _ u' ⟨rfl, y1, y2⟩
       exact ⟨rfl, y1, (hOu.p fun b hb => .inl (by simp at hb; rw [hb]; exact h.dr.2.1)).trans y2 fun k hk => .inl hk⟩
     · rintro _ w6 ⟨rfl, hif⟩
       refine ⟨_, rfl, ?_⟩
       have dl := h.dlt
       by_cases hg : goesP D = true
       · rw [if_pos hg] at hif ⊢
         obtain ⟨y1, y2⟩ := hif
         exact ⟨_, y2.blk hB0 (fun hh => by have := hFh _ hh; omega), _, y2.blk hB1 (fun hh => by have := hFh _ hh; omega), _, y2.blk hB2 (fun hh => by have := hFh _ hh; omega), _, y2.blk hB4 (fun hh => by have := hFh _ hh; omega), rfl, Dsk.gr0 y1, o3.trP y2⟩
       · rw [if_neg hg] at hif ⊢
         obtain ⟨y1, y2⟩ := hif
         exact ⟨_, y2.blk hB0 (by simp; omega), _, y2.blk hB1 (by simp; omega), _, y2.blk hB2 (by simp; omega), _, y2.blk hB4 (by simp; omega), rfl, Dsk.gr0 y1, o3.trP (y2.p fun b hb => .inl (by simp at hb; rw [hb]; exact h.dr.2.1))⟩
theorem rename_c (h : DkP w d D r tb F) (a b : List UInt8) : Calls Try.prog 16 #[.pointer (some ⟨d, 0, none⟩), .string (T a), .string (T b)] w fun e w' => e = .returned (.int .i64 (renD D a b).1) /\ Aft d (renD D a b).2 F w w' :=
 (rename_c0 h.heap (fun _ hx => hx.2) a b).mono fun _ _ hh => ⟨hh.1, hh.2.mono fun _ hx => hx.1⟩
theorem arm_c (h : DkP w d D r tb F) {n q : Int} (hi : InI n) : Calls Try.prog 9 #[.pointer (some ⟨d, 0, none⟩), .int .i64 n, .int .i64 q] w fun e w' => e = .returned (.tuple #[]) /\ DkP w' d (armD D n q) r tb F /\ Only [d] w w' := by
 refine ret (v18w ⟨d, 0, none⟩ n q (fun v w' => v = .tuple #[] /\ DkP w' d (armD D n q) r tb F /\ Only [d] w w') w ?_)
 unfold v18v
 obtain ⟨a0, b0, c0, hb, _⟩ := h.blk
 refine ⟨d, 1, _, _, rfl, hb, by simp, fun w0 hO0 hB0 => ⟨d, 2, _, _, rfl, hB0, by simp [splice], fun w1 hO1 hB1 => ⟨d, 3, _, _, rfl, hB1, by simp [splice], fun w2 hO2 hB2 => ?_⟩⟩⟩
 have o : Only [d] w w2 := (hO0.trans hO1 fun x hx => .inl hx).trans hO2 fun x hx => .inl hx
 refine ⟨rfl, h.power o (off := D.off) (pw := if 0 <= n then some (n.toNat, q) else none) (armed := decide (n >= 0)) (acts := n) (part := q) hB2 ?_, o⟩
 unfold Pw
 obtain ⟨hi1, hi2⟩ := hi
 by_cases hn : 0 <= n
 · simp only [if_pos hn]
   exact ⟨decide_eq_true hn, by omega, trivial, by omega⟩
 · simp only [if_neg hn]
   exact decide_eq_false hn
theorem up_c (h : DkP w d D r tb F) : Calls Try.prog 11 #[.pointer (some ⟨d, 0, none⟩)] w fun e w' => e = .returned (.bool (!D.off)) /\ w' = w := by
 refine ret (v19w ⟨d, 0, none⟩ (fun v w' => v = .bool (!D.off) /\ w' = w) w ?_)
 unfold v19v
 exact ⟨_, h.off, rfl, rfl⟩
def newD (room : Int) : Dk := ⟨[], false, none, room.toNat⟩
theorem new_c (w : World) {room : Int} (hi : InI room) : Calls Try.prog 8 #[.int .i64 room] w fun e w' => ∃ d, e = .returned (.pointer (some ⟨d, 0, none⟩)) /\ Dsk w' d (newD room) (fun k => w.heap.size <= k /\ k < w'.heap.size) /\ Only [] w w' := by
 refine (v15w room (fun v w' => ∃ d, v = .pointer (some ⟨d, 0, none⟩) /\ Dsk w' d (newD room) (fun k => w.heap.size <= k /\ k < w'.heap.size) /\ Only [] w w') w ?_).mono (by
  rintro _ w' ⟨v, rfl, d, rfl, h⟩; exact ⟨d, rfl, h⟩)
 unfold v15v
 obtain ⟨hm0, hM0, hO0⟩ := MapV.make (P := Try.prog) (mty := 28) (kv := kS) (g := gS) w
 refine ⟨_, _, hm0, fun k0 w1 hk0 hk0' hO1 hB => ⟨k0, rfl, ⟨w.heap.size, fun _ => none, ?_⟩, hO0.tr0 hO1⟩⟩
 have z0 := hM0.lt
 have z1 := hO1.size
 have er : (if 0 > room then 0 else room) = ((room.toNat : Nat) : Int) := by split <;> omega
 rw [er] at hB
 obtain ⟨hi1, hi2⟩ := hi
 exact ⟨⟨false, 0, 0, hB, rfl⟩, (hM0.only hO1 (by simp)).ext fun k => rfl, fun k => ⟨fun _ => rfl, fun _ => rfl⟩, fun k p s f h => (by cases h), fun k l x ⟨p, s, h, _⟩ => (by cases h), fun k x ⟨p, s, h, _⟩ => (by cases h), ⟨by omega, ⟨by omega, hk0'⟩, ⟨Nat.le_refl _, by omega⟩⟩,
  ⟨.nil, fun f h => (by cases h), fun f h => (by cases h), Nat.zero_le _, by show room.toNat <= _; omega⟩⟩
end
def rBs : Rp (List UInt8) := fun w F l cs => ∃ sl : Sl, cs = [sl.v] /\ SliceF rByte 1 w F sl l
theorem rBs_ok : rBs.Ok where
 keep := fun ⟨sl, h1, h2⟩ hk => ⟨sl, h1, SliceF.keep rByte_ok h2 (by decide) hk⟩
 inHeap := fun ⟨sl, h1, h2⟩ => ⟨sl, h1, SliceF.inHeap rByte_ok h2 (by decide)⟩
 mono := fun ⟨sl, h1, h2⟩ hk => ⟨sl, h1, SliceF.mono rByte_ok h2 hk⟩
 one := fun ⟨sl, h1, h2⟩ v hv => by subst h1; simp only [List.mem_singleton] at hv; subst hv; rfl
theorem join_flat : ∀ ls : List (List UInt8), Lib.join ls [] = ls.flatten
 | [] => rfl
 | [x] => by rw [Lib.join_one]; simp
 | x :: y :: r => by
  have := join_flat (y :: r)
  rw [Lib.join] at this ⊢
  simp only [List.intercalate, List.intersperse] at this ⊢
  rw [List.flatten_cons, List.flatten_cons, List.flatten_cons, this, List.nil_append]
theorem lens_flat (ls : List (List UInt8)) : Lib.lens ls = ls.flatten.length := by
 induction ls with
 | nil => rfl
 | cons a l ih =>
  rw [List.flatten_cons, List.length_append, <- ih]
  simp [Lib.lens]
theorem fresh_sl {B : Nat} {w : World} {v : Value} {l : List UInt8} (h : Lib.FreshBytes B w v l) : ∃ t : Sl, v = t.v /\ SliceF rByte 1 w (fun k => B <= k) t l := by
 obtain ⟨g, cap, zs, rfl, h1, h2, h3, h4, h5, h6, h7, h8⟩ := h
 refine ⟨⟨some ⟨g, 0, none⟩, l.length, cap⟩, rfl, rfl, h2, fun h => (by cases h), by have : maxLen = 9223372036854775807 := rfl; dsimp only; omega, fun j b hj => ⟨⟨g, 0, none⟩, _, rfl, h1, rfl, ?_, rfl⟩⟩
 have hjl := (List.getElem?_eq_some_iff.1 hj).1
 rw [Nat.mul_one, addr_lit, Nat.zero_add]
 intro i v hi
 have hi0 : i = 0 := by
  have := (List.getElem?_eq_some_iff.1 hi).1
  simp at this
  omega
 subst hi0
 simp only [List.getElem?_cons_zero, Option.some.injEq] at hi
 subst hi
 rw [addr_lit, Nat.add_zero, h7 j (by omega)]
 rw [<- h6] at hj
 have hz : j < (zs.take l.length).length := by rw [List.length_take]; omega
 rw [Lib.bytesOf, List.getElem?_map, List.getElem?_eq_getElem hz, Option.map_some, Option.some.injEq] at hj
 rw [List.getElem_take] at hj
 have hzj : j < zs.length := by omega
 have hx := h5 _ (List.getElem_mem hzj)
 have e : zs.getD j 0 = zs[j] := by rw [List.getD_eq_getElem?_getD, List.getElem?_eq_getElem hzj]; rfl
 rw [e, <- hj]
 show some (Value.int .u8 zs[j]) = some (Value.int .u8 _)
 congr 2
 have h9 : (UInt8.ofNat zs[j].toNat).toNat = zs[j].toNat % 2 ^ 8 := UInt8.toNat_ofNat'
 rw [h9]
 omega
section
variable {w w' : World} {d r : Nat} {D E : Dk} {tb : Tb} {F G : Nat -> Prop} {p : Nat} {sl : Sl} {f : Fl} {a b s : List UInt8}
theorem holds {sl : Sl} {l : List UInt8} (h : SliceF rByte 1 w G sl l) : Lib.HoldsBytes w sl.v l := by
 refine ⟨sl.a, sl.c, by rw [<- h.len], fun hn => List.eq_nil_of_length_eq_zero (by have := h.nil0 hn; have := h.cap; have := h.len; omega), fun ad ha i x hx => ?_⟩
 obtain ⟨base, cs, g1, g2, g3, g4, g5⟩ := h.at_ i x hx
 rw [ha] at g1
 injection g1 with g1
 subst g1
 have g5 : cs = [byteV x] := g5
 subst g5
 rw [Nat.mul_one] at g4
 have := g4 0 (byteV x) rfl
 exact this
theorem join_c {parts : Sl} {ls : List (List UInt8)} (hp : SliceF rBs 1 w G parts ls) (ha : parts.a = none ∨ ∃ b, parts.a = some ⟨b, 0, none⟩) (hl : ls.flatten.length <= 140737488355328) (hn : ls.length <= 140737488355328) :
  Calls Try.prog 26 #[parts.v, Sl.nil.v] w fun e w' => (∃ t : Sl, e = .returned t.v /\ SliceF rByte 1 w' (fun k => w.heap.size <= k) t ls.flatten) /\ Only [] w w' := by
 have hlen := hp.len
 have hcap := hp.cap
 obtain ⟨css, k1, k2⟩ := hp.flat'
 match ls, hlen, k1 with
 | [], hlen, _ =>
  have e : parts.v = .slice parts.a 0 parts.c := by show Value.slice parts.a parts.n parts.c = _; rw [hlen]; rfl
  rw [e]
  refine (Try.bytes_Join_none parts.a parts.c Sl.nil.v w).mono ?_
  rintro _ w' ⟨rfl, rfl⟩
  exact ⟨⟨⟨some ⟨w.heap.size, 0, none⟩, 0, 0⟩, rfl, rfl, Nat.le_refl _, fun h => (by cases h), Nat.zero_le _, fun j x h => by simp at h⟩, Only.alloc _ _⟩
 | [l0], hlen, k1 =>
  obtain ⟨base, cs, g1, g2, g3, g4, g5⟩ := hp.at_ 0 l0 rfl
  rcases ha with ha | ⟨b, ha⟩
  · rw [ha] at g1; cases g1
  rw [ha] at g1
  injection g1 with g1
  subst g1
  obtain ⟨s0, rfl, hs0⟩ := g5
  rw [Nat.zero_mul] at g4
  have hcell : w.cell? ⟨b, 0, none⟩ = some s0.v := g4 0 _ rfl
  have e : parts.v = .slice (some ⟨b, 0, none⟩) 1 parts.c := by show Value.slice parts.a parts.n parts.c = _; rw [hlen, ha]; rfl
  have hl0 := hs0.len
  rw [e]
  by_cases h0 : l0.length = 0
  · have : l0 = [] := List.eq_nil_of_length_eq_zero h0
    subst this
    have hl0 : s0.n = 0 := hl0
    refine (Try.bytes_Join_one_empty b 0 parts.c s0.a s0.c Sl.nil.v w (by rw [hcell]; show some (Value.slice s0.a s0.n s0.c) = _; rw [hl0])).mono ?_
    rintro _ w' ⟨rfl, rfl⟩
    exact ⟨⟨Sl.nil, rfl, SliceF.nil _ _ _ _⟩, Only.refl _ _⟩
  · obtain ⟨p0, cap, e1, e2, e3⟩ := holds hs0
    have e1 : Value.slice s0.a s0.n s0.c = .slice p0 l0.length cap := e1
    simp only [Value.slice.injEq] at e1
    obtain ⟨rfl, _, rfl⟩ := e1
    cases hq : s0.a with
    | none => exact absurd (e2 hq) (fun h => h0 (by rw [h]; rfl))
    | some ad =>
     simp only [List.flatten_cons, List.flatten_nil, List.append_nil] at hl ⊢
     refine (Try.bytes_Join_one b 0 parts.c ad s0.c l0 Sl.nil.v w (by rw [hcell]; show some (Value.slice s0.a s0.n s0.c) = _; rw [hq, hl0]) (e3 ad hq) (by omega) hl).mono ?_
     rintro _ w' ⟨v, rfl, h1, h2⟩
     obtain ⟨t, rfl, ht⟩ := fresh_sl h1
     exact ⟨⟨t, rfl, ht⟩, Only.of_below h2⟩
 | l0 :: l1 :: r, hlen, k1 =>
  obtain ⟨base, cs, g1, g2, g3, g4, g5⟩ := hp.at_ 0 l0 rfl
  rcases ha with ha | ⟨b, ha⟩
  · rw [ha] at g1; cases g1
  have hce := k2 _ ha
  have e : parts.v = .slice (some ⟨b, 0, none⟩) (l0 :: l1 :: r).length parts.c := by show Value.slice parts.a parts.n parts.c = _; rw [hlen, ha]
  rw [e]
  refine (Try.bytes_Join_many b 0 (l0 :: l1 :: r).length parts.c css.flatten (l0 :: l1 :: r) Sl.nil.v [] w rfl (by simp) ⟨by rw [k1.flen, Nat.mul_one], fun i v hi => hce i v hi, fun i v l hv hl => ?_⟩ (by omega) ⟨none, 0, rfl, fun _ => rfl, fun a h => (by cases h)⟩ hn (by rw [lens_flat]; simpa using hl)).mono ?_
  · obtain ⟨cs, q1, q2, q3⟩ := k1.get hl
    obtain ⟨s0, rfl, hs0⟩ := q3
    have := flat_at k1.sz q1 (show [s0.v][0]? = some s0.v from rfl)
    rw [Nat.mul_one, Nat.add_zero, hv] at this
    injection this with this
    rw [this]
    exact holds hs0
  · rintro _ w' ⟨v, rfl, h1, h2⟩
    rw [join_flat] at h1
    obtain ⟨t, rfl, ht⟩ := fresh_sl h1
    exact ⟨⟨t, rfl, ht⟩, Only.of_below h2⟩
theorem putF_putF (f g : Fl) (h : f.nm = g.nm) : ∀ l : List Fl, putF g (putF f l) = putF g l
 | [] => by
  rw [putF, putF, putF, if_neg (by rw [h]; exact List.lt_irrefl _), if_pos h]
 | a :: r => by
  rw [putF]
  split
  · rename_i hf
    rw [putF, if_neg (by rw [h]; exact List.lt_irrefl _), if_pos h, putF, if_pos (by rw [<- h]; exact hf)]
  · rename_i hf
    split
    · rename_i ha
      rw [putF, if_neg (by rw [h]; exact List.lt_irrefl _), if_pos h, putF, if_neg (by rw [<- h]; exact hf), if_pos (ha.trans h)]
    · rename_i ha
      rw [putF, if_neg (by rw [<- h]; exact hf), if_neg (by rw [<- h]; exact ha), putF_putF f g h r, putF, if_neg (by rw [<- h]; exact hf), if_neg (by rw [<- h]; exact ha)]
theorem look_of {n : Nat} (h : MapV kS gS w r (mT tb) n) (s : List UInt8) : (Instr.lookup 28 (.map (some r)) (.string (T s)) false).run Try.prog w = .ok (.pointer ((tb s).map fun q => ⟨q.1, 0, none⟩)) w := by
 have := h.lookup (P := Try.prog) (mty := 28) (kt := 9) (et := 64) (z := .pointer none) keyS (by kernel_rfl) (by kernel_rfl) (fun w => Try.zeroValue64 w) s
 rw [this, mT]
 cases tb s <;> rfl
theorem sumF_put {l : List Fl} (hr : Rise l) {g f' : Fl} (hn : f'.nm = g.nm) (hl : ((lookF l g.nm).map (·.bs.length)).getD 0 = g.bs.length) : sumF (putF f' l) + g.bs.length = sumF l + f'.bs.length := by
 have := putF_sum f' hr
 rw [hn, hl] at this
 exact this
theorem append_c (h : DkP w d D r tb F) {parts : Sl} {ls : List (List UInt8)} (hp : SliceF rBs 1 w G parts ls) (ha : parts.a = none ∨ ∃ b, parts.a = some ⟨b, 0, none⟩) (hm : sumF D.fs + ls.flatten.length <= 140737488355328) (hn : ls.length <= 140737488355328) (s : List UInt8) :
  Calls Try.prog 10 #[.pointer (some ⟨d, 0, none⟩), .string (T s), parts.v] w fun e w' => e = .returned (.int .i64 (appD D s ls).1) /\ Aft d (appD D s ls).2 F w w' := by
 refine ret (v1w ⟨d, 0, none⟩ (T s) parts (fun v w' => v = .int .i64 (appD D s ls).1 /\ Aft d (appD D s ls).2 F w w') w ?_)
 unfold v1v
 refine ⟨_, h.off, fun ho => ?_, fun ho => (name_c s).mono ?_⟩
 · have e : appD D s ls = (50, D) := by unfold appD; rw [if_pos ho]
   rw [e]
   exact ⟨rfl, Aft.same h (Only.refl _ _)⟩
 rintro _ w0 ⟨rfl, hu⟩
 obtain rfl : w = w0 := hu.symm
 refine ⟨_, rfl, fun hb => ?_, fun hb => (free_c h).mono ?_⟩
 · have hb : nameK s = false := by simpa using hb
   have e : appD D s ls = (1, D) := by unfold appD; rw [if_neg (by rw [ho]; simp), if_pos hb]
   rw [e]
   exact ⟨rfl, Aft.same h (Only.refl _ _)⟩
 rintro _ w1 ⟨rfl, hO1⟩
 have hb : nameK s = true := by simpa using hb
 have z1 := hO1.size
 have hp1 := SliceF.only rBs_ok (by decide) hp hO1 (by simp)
 have hln := hp.len
 have hcp := hp.cap
 have hbg := hp.big
 have i1 := h.inv.sum
 have i2 := h.inv.big
 refine ⟨_, rfl, fun nv x i u => ∃ n : Nat, i = (n : Int) /\ nv + n = ls.length /\ u = w1 /\ x = (D.room : Int) - sumF D.fs - Lib.lens (ls.take n) /\ 0 <= x, ls.length, ⟨0, rfl, rfl, rfl, by simp [Lib.lens], by omega⟩, ?_⟩
 rintro nv x _ w2 ⟨n, rfl, hnv, hu, hx, hx0⟩
 obtain rfl : w1 = w2 := hu.symm
 refine ⟨fun hlt => ?_, fun hge => ?_⟩
 · have hlt : (n : Int) < (parts.n : Int) := of_decide_eq_true hlt
   obtain ⟨ad, l, cs, g1, g2, g3, g4, g5, g6⟩ := hp1.get (Int.natCast_nonneg n) hlt
   rw [Int.toNat_natCast] at g2
   obtain ⟨s0, rfl, hs0⟩ := g6
   have hl0 := hs0.len
   have ht := Lib.lens_take_succ ls n l g2
   refine ⟨ad, g1, s0, g5, fun hc => ?_, fun hc => ⟨nv - 1, by omega, n + 1, by rw [wr' (by omega) (by omega)]; rfl, by omega, rfl, ?_, ?_⟩⟩
   · have hc : (s0.n : Int) > x := of_decide_eq_true hc
     have hle : Lib.lens (ls.take (n + 1)) <= Lib.lens ls := Lib.lens_take_le ls (n + 1)
     rw [lens_flat ls] at hle
     have e : appD D s ls = (52, D) := by unfold appD; rw [if_neg (by rw [ho]; simp), if_neg (by rw [hb]; simp), if_pos (by omega)]
     rw [e]
     exact ⟨rfl, Aft.same h hO1⟩
   · have hc : ¬ (s0.n : Int) > x := of_decide_eq_false hc
     rw [wr' (by omega) (by omega)]
     omega
   · have hc : ¬ (s0.n : Int) > x := of_decide_eq_false hc
     rw [wr' (by omega) (by omega)]
     omega
 have hge : ¬ (n : Int) < (parts.n : Int) := of_decide_eq_false hge
 have hn2 : n = ls.length := by omega
 subst hn2
 rw [List.take_length, lens_flat] at hx
 refine (join_c hp1 ha (by omega) hn).mono ?_
 rintro _ w3 ⟨⟨l1, rfl, hl1⟩, hO3⟩
 have z3 := hO3.size
 have o3 := hO1.tr0 hO3
 have h3 := h.only0 o3
 have hl1 := SliceF.inHeap rByte_ok hl1 (by decide)
 have hl1n := hl1.len
 have hl1c := hl1.cap
 refine ⟨l1, rfl, (pcut_c h3).mono ?_⟩
 rintro _ w4 ⟨rfl, h4, hO4⟩
 have z4 := hO4.size
 obtain ⟨e1, e2⟩ := cutP_fs D
 have hroom : ¬ D.room < sumF D.fs + ls.flatten.length := by omega
 have ea : ∀ ys : List UInt8, ((cutP D).1 = none -> ys = ls.flatten) -> (∀ q, (cutP D).1 = some q -> ys = ls.flatten.take (modI q (ls.flatten.length + 1))) -> appD D s ls = (codeP D, setFs (cutP D).2 (putF { getF D s with bs := (getF D s).bs ++ ys } (cutP D).2.fs)) := fun ys y1 y2 => by
  unfold appD codeP
  rw [if_neg (by rw [ho]; simp), if_neg (by rw [hb]; simp), if_neg hroom]
  rcases hcc : cutP D with ⟨g, E⟩
  rw [hcc] at y1 y2
  cases g with
  | none => rw [y1 rfl]; rfl
  | some q => rw [y2 q rfl]; rfl
 have hl14 : SliceF rByte 1 w4 (fun k => w1.heap.size <= k /\ k < w3.heap.size) l1 ls.flatten := SliceF.only rByte_ok (by decide) hl1 hO4 fun k hk _ hm => by simp at hm; have := h.dlt; omega
 refine ⟨_, _, rfl, fun l2 u => u = w4 /\ ∃ ys, SliceF rByte 1 w4 (fun k => w1.heap.size <= k /\ k < w3.heap.size) l2 ys /\ ys.length <= ls.flatten.length /\ appD D s ls = (codeP D, setFs (cutP D).2 (putF { getF D s with bs := (getF D s).bs ++ ys } (cutP D).2.fs)), ?_, fun hc => ?_, fun hc => ?_⟩
 rotate_left
 · obtain ⟨q, hq⟩ := Option.isSome_iff_exists.1 hc
   have hk := modI_lt q (k := ls.flatten.length + 1) (by omega)
   have ew : IntKind.wrap .i64 ((l1.n : Int) + 1) = ((ls.flatten.length + 1 : Nat) : Int) := by rw [wr' (by omega) (by omega)]; omega
   rw [ew, hq]
   refine (modulo_c q (by omega) (by omega)).mono ?_
   rintro _ w23 ⟨rfl, hu⟩
   obtain rfl : w4 = w23 := hu.symm
   refine ⟨_, rfl, modI q (ls.flatten.length + 1), ⟨rfl, by omega⟩, rfl, ls.flatten.take (modI q (ls.flatten.length + 1)), ?_, by rw [List.length_take]; omega, ea _ (fun h => by rw [hq] at h; cases h) fun q' hq' => by rw [hq] at hq'; injection hq' with hq'; rw [hq']⟩
   have := hl14.cut (lo := 0) (hi := modI q (ls.flatten.length + 1)) (m := l1.c) (by omega) (by omega) (by omega) (by omega)
   rwa [Nat.sub_zero, List.drop_zero] at this
 · have hq : (cutP D).1 = none := by cases hq : (cutP D).1 with
    | none => rfl
    | some q => rw [hq] at hc; cases hc
   exact ⟨rfl, ls.flatten, hl14, Nat.le_refl _, ea _ (fun _ => rfl) fun q hq' => by rw [hq] at hq'; cases hq'⟩
 rintro l2 w5 ⟨hu, ys, hys, hyl, hap⟩
 obtain rfl : w4 = w5 := hu.symm
 rw [hap]
 obtain ⟨E, hE⟩ : ∃ E, (cutP D).2 = E := ⟨_, rfl⟩
 rw [hE] at h4 e1 e2
 simp only [hE]
 have o4 : OnlyP F w w4 := o3.trP (hO4.p fun b hb => .inl (by simp at hb; rw [hb]; exact h.dr.2.1))
 have g0 : (getF D s).nm = s := getF_nm D s
 have gl : ((lookF E.fs s).map (·.bs.length)).getD 0 = (getF D s).bs.length := by
  rw [e1, getF]
  cases lookF D.fs s <;> rfl
 have gsf : (getF D s).sf <= (getF D s).bs.length := by
  rw [getF]
  cases hq : lookF D.fs s with
  | none => exact Nat.le_refl _
  | some f => exact h.inv.safe f (lookF_mem hq).1
 have gle : (getF D s).bs.length <= sumF D.fs := by
  rw [getF]
  cases hq : lookF D.fs s with
  | none => exact Nat.zero_le _
  | some f => exact sumF_mem (lookF_mem hq).1
 refine ⟨fun u => ∃ tb6 L6 p sl, DkP u d (setFs E L6) r tb6 (fun x => F x ∨ w4.heap.size <= x) /\ tb6 s = some (p, sl) /\ lookF L6 s = some (getF D s) /\ (∀ g, g.nm = s -> putF g L6 = putF g E.fs) /\ sumF L6 = sumF D.fs /\ OnlyP F w u /\ w4.heap.size <= u.heap.size /\ SliceF rByte 1 u (fun k => w1.heap.size <= k /\ k < w3.heap.size) l2 ys /\ (∀ k, w1.heap.size <= k /\ k < w3.heap.size -> sl.a ≠ some ⟨k, 0, none⟩), ?_, ?_⟩
 · rintro w6 ⟨tb6, L6, p, sl, h6, t6, k6, q6, s6, o6, z6, y6, d6⟩
   refine ⟨fun u => Aft d (setFs E (putF { getF D s with bs := (getF D s).bs ++ ys } E.fs)) F w u, fun w7 hJ => ⟨fun hc => ⟨by unfold codeP; rw [if_pos hc], hJ⟩, fun hc => ⟨by unfold codeP; rw [if_neg (by rw [hc]; simp)], hJ⟩⟩, fun w8 hO8 => ?_⟩
   have z8 := hO8.size
   have h8 := h6.only0 hO8
   have hF8 := h8.fil s p sl _ t6 k6
   have y8 := SliceF.only rByte_ok (by decide) y6 hO8 (by simp)
   have lk : ∀ {u : World}, OnlyP (fun x => sl.a = some ⟨x, 0, none⟩) w8 u -> (Instr.lookup 28 (.map (some r)) (.string (T s)) false).run Try.prog u = .ok (.pointer (some ⟨p, 0, none⟩)) u := fun hO => by
    have := look_of (h8.map.keep (hO.block r h8.map.lt fun hx => (h8.out s r ⟨p, sl, t6, .inr hx⟩).2.1 rfl)) s
    rw [t6] at this
    exact this
   have l8 := lk (OnlyP.refl _ w8)
   obtain ⟨l4, w11, a1, a2, a3, a4⟩ := hF8.row.app (ty := 33) y8 d6 (by omega)
   have kp : Keeps (fun k => k = d ∨ k = p) w8 w11 := fun k hk hlt => a3.block k hlt fun hx => by
    rcases hk with rfl | rfl
    · exact (h8.out s _ ⟨p, sl, t6, .inr hx⟩).1 rfl
    · exact hF8.ne hx
   have kr : ∀ u : World, Keeps (fun k => k = d ∨ k = p) u u := fun u k _ _ => rfl
   have hB11 : Blk w11 p 66 [sl.v, .int .i64 ((getF D s).sf : Int)] := a3.blk hF8.blk fun hx => hF8.ne hx
   have fin : ∀ w12 : World, Only [p] w11 w12 -> Blk w12 p 66 [l4.v, .int .i64 ((getF D s).sf : Int)] -> Aft d (setFs E (putF { getF D s with bs := (getF D s).bs ++ ys } E.fs)) F w w12 := fun w12 hO12 hB12 => by
    have o12 : OnlyP (fun x => x = p ∨ sl.a = some ⟨x, 0, none⟩) w8 w12 := (a3.mono fun k _ hk => .inr hk).trans (hO12.p (F := fun x => x = p ∨ sl.a = some ⟨x, 0, none⟩) fun b hb => .inl (.inl (by simpa using hb))) fun k hk => .inl hk
    have hpl : p < w8.heap.size := hF8.blk.lt
    have hne4 : l4.a ≠ some ⟨p, 0, none⟩ := fun hx => by
     rcases a4 with e | e
     · rw [e] at hx; exact hF8.ne hx
     · rw [e] at hx; injection hx with hx; injection hx with hx; omega
    have := h8.setFile (f' := { getF D s with bs := (getF D s).bs ++ ys }) (s' := l4) t6 g0 o12 ⟨hB12, a2.keep fun x hx hlt => hO12.block x hlt (by simp only [List.mem_singleton]; rintro rfl; exact hne4 hx), hne4⟩
     (fun x hx => by
      rcases a4 with e | e
      · rw [e] at hx; exact .inl hx
      · rw [e] at hx; injection hx with hx; injection hx with hx; right; omega)
     (h8.inv.put (by dsimp only; rw [List.length_append]; omega) (by dsimp only; rw [g0]; exact hb) (by
      have := sumF_put (l := L6) (g := getF D s) (f' := { getF D s with bs := (getF D s).bs ++ ys }) h8.inv.rise rfl (by rw [g0, k6]; rfl)
      dsimp only at this
      rw [List.length_append] at this
      have hle : sumF (putF { nm := (getF D s).nm, bs := (getF D s).bs ++ ys, sf := (getF D s).sf } L6) <= E.room := by omega
      exact hle))
    have e6 : putF { getF D s with bs := (getF D s).bs ++ ys } L6 = putF { getF D s with bs := (getF D s).bs ++ ys } E.fs := q6 _ g0
    have := this
    rw [show (setFs E L6).fs = L6 from rfl, e6] at this
    refine ⟨⟨r, _, this.mono fun x hx hf => ?_⟩, ?_⟩
    · rcases hf with (hf | hf) | hf
      · exact .inl hf
      · right
        have := o4.size
        exact ⟨by omega, hx⟩
      · right
        have := o6.size
        exact ⟨by omega, hx⟩
    · refine (o6.tr0 hO8).trans o12 fun k hk => ?_
      have := (h8.out s k ⟨p, sl, t6, hk⟩).2.2
      exact this.imp id fun h => by have := o4.size; omega
   refine ⟨fun k => k = d ∨ k = p, .inl rfl, _, h8.mp, .inl rfl, _, h8.mp, ⟨_, w8, l8, kr _, _, w8, l8, kr _, _, rfl, sl, Blk.at1 hF8.blk 0 rfl, l4, w11, a1, kp, _, rfl, p, 0, _, _, rfl, hB11, by simp, fun w12 hO12 hB12 => fin w12 hO12 hB12⟩, _, w8, l8, kr _, _, rfl, .inr rfl, sl, Blk.at1 hF8.blk 0 rfl, ⟨_, w8, l8, kr _, l4, w11, a1, kp, _, rfl, p, 0, _, _, rfl, hB11, by simp, fun w12 hO12 hB12 => fin w12 hO12 hB12⟩, l4, w11, a1, kp, _, w11, lk a3, kr _, _, rfl, p, 0, _, _, rfl, hB11, by simp, fun w12 hO12 hB12 => fin w12 hO12 hB12⟩
 · have l4 := look_of h4.map s
   refine ⟨_, h4.mp, _, w4, l4, fun hq => ?_, fun hq => ?_⟩
   · have ht : tb s = none := by cases ht : tb s with
      | none => rfl
      | some q => rw [ht] at hq; cases hq
     have hf : lookF D.fs s = none := by have := (h.non s).1 ht; exact this
     have hg : getF D s = fl0 s := by rw [getF, hf]; rfl
     refine ⟨_, h4.mp, fun k12 w21 hk hk' hO21 hB21 => ?_⟩
     have h21 := h4.only0 hO21
     have z21 := hO21.size
     obtain ⟨w22, u1, u2, u3⟩ := h21.map.update (P := Try.prog) (mty := 28) (kt := 9) (et := 64) (k := s) keyS (by kernel_rfl) (by kernel_rfl) (gS_of hb) (.pointer (some ⟨k12, 0, none⟩))
     have z22 := u3.size
     have rlt := h4.map.lt
     have hB22 : Blk w22 k12 66 [Sl.nil.v, .int .i64 0] := u3.blk hB21 (by simp; omega)
     have hsum0 : sumF (putF (fl0 s) E.fs) = sumF D.fs := by
      have := putF_sum (fl0 s) h4.inv.rise
      rw [show (fl0 s).nm = s from rfl, e1, hf] at this
      simp only [Option.map_none, Option.getD_none, fl0, List.length_nil] at this
      rw [e1]
      simp only [fl0]
      omega
     have := h21.addKey (G := fun x => F x ∨ w4.heap.size <= x) (f := fl0 s) (s := Sl.nil) u3 rfl (fun _ h => .inl h) u2 ⟨hB22, RowB.of (B := 0) (Own.nil _ _ _ _ _ _), by simp⟩ (fun x hx => by
       rcases hx with rfl | hx
       · refine ⟨fun e => by have := h4.dlt; omega, by omega, .inr hk, fun l hl hin => by have := h4.lt hin; omega⟩
       · cases hx) (h21.inv.put (Nat.le_refl _) hb (by rw [hsum0, e2]; exact i1))
     have et : updT tb s (k12, Sl.nil) s = some (k12, Sl.nil) := if_pos rfl
     refine ⟨w22, u1, u3.same (by simp; omega), _, putF (fl0 s) E.fs, k12, Sl.nil, this, et, by rw [putF_look _ _ h4.inv.rise, if_pos (show s = (fl0 s).nm from rfl), hg], fun g hgn => putF_putF _ _ (by rw [hgn]; rfl) _, hsum0, (o4.tr0 hO21).trans (u3.p (F := F) fun b hb => .inl (by simp at hb; rw [hb]; exact h.dr.2.2)) fun k hk => .inl hk, by omega, SliceF.only rByte_ok (by decide) (SliceF.only rByte_ok (by decide) hys hO21 (by simp)) u3 (fun k hk _ hm => by simp at hm; have := h.map.lt; omega), fun k _ => by simp⟩
   · cases ht : tb s with
     | none => rw [ht] at hq; cases hq
     | some q =>
      obtain ⟨f, hf⟩ := h.hasF ht
      have hg : getF D s = f := getF_some hf
      refine ⟨tb, E.fs, q.1, q.2, h4.mono fun x _ hx => .inl hx, ht, by rw [e1, hg]; exact hf, fun g _ => rfl, by rw [e1], o4, Nat.le_refl _, hys, fun k hk hx => ?_⟩
      have := h.lt (k := s) ⟨q.1, q.2, ht, .inr hx⟩
      omega
end
def rFl : Rp Fl := fun w F f cs => ∃ t : Sl, cs = [.string (T f.nm), t.v, .int .i64 (f.sf : Int)] /\ Own rByte 1 5 0 w (fun _ => False) t f.bs /\ ∀ k, t.a = some ⟨k, 0, none⟩ -> F k
theorem rFl_ok : rFl.Ok where
 keep := fun ⟨t, h1, h2, h3⟩ hk => ⟨t, h1, h2.keep rByte_ok fun k hx hlt => hk k (h3 k (hx.elim False.elim fun h => h.2)) hlt, h3⟩
 inHeap := fun ⟨t, h1, h2, h3⟩ => ⟨t, h1, h2, fun k hk => ⟨h3 k hk, (h2.blk hk).2⟩⟩
 mono := fun ⟨t, h1, h2, h3⟩ hk => ⟨t, h1, h2, fun k hx => hk k (h3 k hx)⟩
 one := fun ⟨t, h1, h2, h3⟩ v hv => by
  subst h1
  simp only [List.mem_cons, List.not_mem_nil, or_false] at hv
  rcases hv with rfl | rfl | rfl <;> rfl
section
variable {w w' : World} {d r : Nat} {D E : Dk} {tb : Tb} {F G : Nat -> Prop} {p : Nat} {sl : Sl} {f : Fl} {a b s : List UInt8}
theorem flatT {B : Nat} {t : Sl} {l : List (List UInt8)} (h : Own rTx 1 9 B w (fun _ => False) t l) : SliceF rTx 1 w (fun k => B <= k /\ k < w.heap.size) t l :=
 SliceF.mono rTx_ok (SliceF.inHeap rTx_ok (flatS h) (by decide)) fun k hk => ⟨hk.1.1, hk.2⟩
theorem files_c (h : DkP w d D r tb F) (hn : D.fs.length <= 4194304) (hm : sumF D.fs <= 140737488355328) : Calls Try.prog 13 #[.pointer (some ⟨d, 0, none⟩)] w fun e w' => (∃ t : Sl, e = .returned t.v /\ Own rFl 3 38 w.heap.size w' (fun k => w.heap.size <= k) t D.fs) /\ Only [] w w' := by
 refine (v5w ⟨d, 0, none⟩ (fun v w' => (∃ t : Sl, v = t.v /\ Own rFl 3 38 w.heap.size w' (fun k => w.heap.size <= k) t D.fs) /\ Only [] w w') w ?_).mono (by
  rintro _ w' ⟨v, rfl, ⟨t, rfl, h⟩, h'⟩; exact ⟨⟨t, rfl, h⟩, h'⟩)
 unfold v5v
 refine (names_c h hn).mono ?_
 rintro _ w0 ⟨⟨l0, rfl, hl0⟩, hO0⟩
 have z0 := hO0.size
 have hl0 := flatT hl0
 have hln := hl0.len
 have hcp := hl0.cap
 have hbg := hl0.big
 rw [List.length_map] at hln
 refine ⟨l0, rfl, fun nv l i u => ∃ n : Nat, i = (n : Int) /\ nv + n = D.fs.length /\ Only [] w0 u /\ Own rFl 3 38 w0.heap.size u (fun k => w0.heap.size <= k) l (D.fs.take n), D.fs.length, ⟨0, rfl, rfl, Only.refl _ _, by rw [List.take_zero]; exact Own.nil _ _ _ _ _ _⟩, ?_⟩
 rintro nv l1 _ w1 ⟨n, rfl, hnv, hO1, hown⟩
 have z1 := hO1.size
 refine ⟨fun hlt => ?_, fun hge => ?_⟩
 · have hlt : (n : Int) < (l0.n : Int) := of_decide_eq_true hlt
   obtain ⟨ad, nm, cs, g1, g2, g3, g4, g5, g6⟩ := (SliceF.only rTx_ok (by decide) hl0 hO1 (by simp)).get (Int.natCast_nonneg n) hlt
   have g6 : cs = [.string (T nm)] := g6
   subst g6
   rw [Int.toNat_natCast, List.getElem?_map, Option.map_eq_some_iff] at g2
   obtain ⟨f, hfn, hnm⟩ := g2
   have hmem := List.mem_of_getElem? hfn
   have hlk : lookF D.fs nm = some f := by rw [<- hnm]; exact h.inv.rise.lookF hmem
   obtain ⟨p, s, ht, _⟩ := h.file hlk
   have hlen := sumF_mem hmem
   have htk : D.fs.take (n + 1) = D.fs.take n ++ [f] := by rw [List.take_add_one, hfn]; rfl
   refine ⟨ad, g1, T nm, g5, fun l u => Only [] w0 u /\ Own rFl 3 38 w0.heap.size u (fun k => w0.heap.size <= k) l (D.fs.take (n + 1)), fun l2 w2 hJ => ⟨nv - 1, by omega, n + 1, by rw [wr' (by omega) (by omega)]; rfl, by omega, hJ.1, hJ.2⟩, fun w3 hO3 => ?_⟩
   have o3 := hO1.tr0 hO3
   have hD : ∀ {u : World}, Only [] w0 u -> DkP u d D r tb F := fun hO => h.only0 (hO0.tr0 hO)
   have lk : ∀ {u : World}, Only [] w0 u -> (Instr.lookup 28 (.map (some r)) (.string (T nm)) false).run Try.prog u = .ok (.pointer (some ⟨p, 0, none⟩)) u := fun hO => by
    have := look_of (hD hO).map nm
    rw [ht] at this
    exact this
   have fl : ∀ {u : World}, Only [] w0 u -> FileP u p s f := fun hO => (hD hO).fil nm p s f ht hlk
   have cl : ∀ {u : World}, Only [] w0 u -> Calls Try.prog 30 #[s.v] u fun e w' => (∃ t : Sl, e = .returned t.v /\ Own rByte 1 5 u.heap.size w' (fun _ => False) t f.bs) /\ Only [] u w' := fun hO => bclone_c (fl hO).row.sl (by omega)
   have kp : ∀ {u u' : World}, Only [] u u' -> Keeps (fun k => k = d ∨ k = p) u u' := fun hO k _ hk => hO.block k hk (by simp)
   have ap : ∀ {u u' u'' : World} {t : Sl}, Only [] w1 u -> Only [] u u' -> Own rByte 1 5 u.heap.size u' (fun _ => False) t f.bs -> Only [] u' u'' -> ∃ l5 w7, (Instr.buildSlice 35 1 #[.mk 0 (.agg #[.string (T nm), t.v, .int .i64 (f.sf : Int)])]).run Try.prog u'' = .ok (Sl.v l5) w7 /\ Keeps (fun k => k = d ∨ k = p) u'' w7 /\
     ∃ l6 w8, (Builtin.append_ #[35, 35] 35 #[Sl.v l1, Sl.v l5]).run Try.prog w7 = .ok (Sl.v l6) w8 /\ Keeps (fun k => k = d ∨ k = p) w7 w8 /\ Only [] w0 w8 /\ Own rFl 3 38 w0.heap.size w8 (fun k => w0.heap.size <= k) l6 (D.fs.take (n + 1)) := fun {u u' u'' t} q1 q2 ho q3 => by
    have zz := q1.size
    have zy := q2.size
    have zx := q3.size
    have q13 := (q1.tr0 q2).tr0 q3
    have hx : rFl u'' (fun k => t.a = some ⟨k, 0, none⟩) f [.string (T nm), t.v, .int .i64 (f.sf : Int)] := ⟨t, by rw [hnm], (ho.keep rByte_ok fun k _ hlt => q3.block k hlt (by simp)).low (Nat.zero_le _), fun k hk => hk⟩
    have hown' := hown.keep (w' := u'') rFl_ok fun k _ hlt => q13.block k hlt (by simp)
    obtain ⟨y, w7, k1, k3, l6, w8, m1, m2, ⟨gs, m3, m4⟩, m5⟩ := app_one (P := Try.prog) (t := 35) (ty := 35) (e := 38) (i := Try.t38) (bytes := 48) (size := 3) (r := rFl) (G := fun k => t.a = some ⟨k, 0, none⟩) (v := .agg #[.string (T nm), t.v, .int .i64 (f.sf : Int)]) (x := f) (by kernel_rfl) (by kernel_rfl) rfl rfl rfl rfl (by decide) (by decide) (by decide) rFl_ok hown' (by omega) rfl hx (fun k hk hlt => by
     have hb := (ho.blk hk).1
     dsimp only at hb
     exact ⟨by omega, fun ha => by have := (hown.blk ha).2; dsimp only at this; omega⟩) (by rw [List.length_take]; omega)
    have dlt := h.dlt
    have plt := h.lt (k := nm) ⟨p, s, ht, .inl rfl⟩
    refine ⟨y, w7, k1, kp k3, l6, w8, m1, fun k hk hlt => m3.block k hlt fun hg => by have := (m4 k hg).2.1; omega, ((hO1.tr0 q13).tr0 k3).trans m3 fun x hx => .inr (m4 x hx).2.1, ?_⟩
    rw [htk]
    exact m2.mono rFl_ok fun k hk => hk.elim id fun h => by omega
   have kr : ∀ u : World, Keeps (fun k => k = d ∨ k = p) u u := fun u k _ _ => rfl
   have mp3 := (hD o3).mp
   have b0 := Blk.at1 (fl o3).blk 0 (v := s.v) rfl
   have b1 := Blk.at1 (fl o3).blk 1 (v := .int .i64 (f.sf : Int)) rfl
   refine ⟨fun k => k = d ∨ k = p, .inl rfl, _, mp3, .inl rfl, _, mp3, ⟨_, w3, lk o3, kr _, _, rfl, .inr rfl, s, b0, (cl o3).mono ?_, _, w3, lk o3, kr _, _, rfl, .inr rfl, _, b1, (cl o3).mono ?_⟩, _, w3, lk o3, kr _, _, rfl, .inr rfl, _, b1, _, w3, lk o3, kr _, _, rfl, s, b0, (cl o3).mono ?_⟩
   · rintro _ w5 ⟨⟨t, rfl, ho⟩, hO5⟩
     have o5 := o3.tr0 hO5
     exact ⟨t, rfl, kp hO5, _, w5, lk o5, kr _, _, rfl, _, Blk.at1 (fl o5).blk 1 rfl, ap hO3 hO5 ho (Only.refl _ _)⟩
   · rintro _ w5 ⟨⟨t, rfl, ho⟩, hO5⟩
     exact ⟨t, rfl, kp hO5, ap hO3 hO5 ho (Only.refl _ _)⟩
   · rintro _ w5 ⟨⟨t, rfl, ho⟩, hO5⟩
     exact ⟨t, rfl, kp hO5, ap hO3 hO5 ho (Only.refl _ _)⟩
 · have hge : ¬ (n : Int) < (l0.n : Int) := of_decide_eq_false hge
   have hn2 : n = D.fs.length := by omega
   subst hn2
   rw [List.take_length] at hown
   exact ⟨⟨l1, rfl, (hown.low z0).mono rFl_ok fun k hk => Nat.le_trans z0 hk⟩, hO0.tr0 hO1⟩
end
end Go.Proofs.Ytijipkdbkgafkaa.Con
namespace Go.Proofs.Ytijipkdbkgafkaa.Con
open Go Go.RowKit Go.Kt Go.Kt.V Go.Proofs.Ytijipkdbkgafkaa.Vc
set_option linter.unusedSimpArgs false
set_option linter.unusedVariables false
set_option maxHeartbeats 1000000
set_option maxRecDepth 100000
theorem putF_mid {f g : Fl} (hn : g.nm = f.nm) {B : List Fl} : ∀ {A : List Fl}, Rise (A ++ f :: B) -> putF g (A ++ f :: B) = A ++ g :: B
 | [], _ => by
  rw [List.nil_append, putF, if_neg (by rw [hn]; exact List.lt_irrefl _), if_pos hn.symm]
  rfl
 | a :: A, h => by
  rw [List.cons_append] at h ⊢
  obtain ⟨h1, h2⟩ := List.pairwise_cons.1 h
  have hlt := h1 f (by simp)
  rw [putF, if_neg (by rw [hn]; exact fun h => absurd (List.lt_trans h hlt) (List.lt_irrefl _)), if_neg (by rw [hn]; exact fun e => by rw [e] at hlt; exact absurd hlt (List.lt_irrefl _)), putF_mid hn h2]
  rfl
theorem bootL_snoc : ∀ (ks : List Int) {l : List Fl} {n : Nat} {f : Fl}, l[n]? = some f -> bootL ks (l.take (n + 1)) = bootL ks (l.take n) ++ [bootF (ks.drop n) f]
 | ks, a :: l, 0, f, h => by
  simp only [List.getElem?_cons_zero, Option.some.injEq] at h
  subst h
  simp [bootL]
 | ks, a :: l, n + 1, f, h => by
  rw [List.take_succ_cons, List.take_succ_cons, bootL, bootL, bootL_snoc ks.tail (by simpa using h), List.cons_append]
  have : ks.tail.drop n = ks.drop (n + 1) := by cases ks <;> simp
  rw [this]
theorem bootF_le {ks : List Int} {f : Fl} (h : f.sf <= f.bs.length) : (bootF ks f).bs.length <= f.bs.length /\ (bootF ks f).sf = (bootF ks f).bs.length /\ f.sf <= (bootF ks f).sf /\ (bootF ks f).nm = f.nm /\ (bootF ks f).bs = f.bs.take (bootF ks f).sf := by
 have hk : (bootF ks f).sf <= f.bs.length := by
  unfold bootF
  dsimp only
  cases ks with
  | nil => dsimp only; omega
  | cons x r =>
   dsimp only
   have := modI_lt x (k := f.bs.length - f.sf + 1) (by omega)
   omega
 refine ⟨?_, ?_, ?_, rfl, rfl⟩
 · show (f.bs.take (bootF ks f).sf).length <= _
   rw [List.length_take]; omega
 · show _ = (f.bs.take (bootF ks f).sf).length
   rw [List.length_take]; omega
 · unfold bootF
   exact Nat.le_add_right _ _
section
variable {w w' : World} {d r : Nat} {D E : Dk} {tb : Tb} {F G : Nat -> Prop} {p : Nat} {sl : Sl} {f : Fl} {a b s : List UInt8}
theorem boot_c0 (h : DkP w d D r tb F) (hFh : ∀ x, F x -> x < w.heap.size) (hn : D.fs.length <= 4194304) (hm : sumF D.fs <= 140737488355328) {ka : Sl} {keep : List Int} (hk : SliceF rInt 1 w G ka keep) (hG : ∀ k, G k -> k < w.heap.size -> ¬ F k) :
  Calls Try.prog 12 #[.pointer (some ⟨d, 0, none⟩), ka.v] w fun e w' => e = .returned (.tuple #[]) /\ Aft d (bootD D keep) F w w' := by
 refine ret (v2w ⟨d, 0, none⟩ ka (fun v w' => v = .tuple #[] /\ Aft d (bootD D keep) F w w') w ?_)
 unfold v2v
 refine (names_c h hn).mono ?_
 rintro _ w0 ⟨⟨l0, rfl, hl0⟩, hO0⟩
 have z0 := hO0.size
 have hl0 := flatT hl0
 have hln := hl0.len
 have hcp := hl0.cap
 have hbg := hl0.big
 rw [List.length_map] at hln
 have hkl := hk.len
 have hkc := hk.cap
 have hkb := hk.big
 have hkh := SliceF.inHeap rInt_ok hk (by decide)
 have h0 := h.only0 hO0
 refine ⟨l0, rfl, fun nv i u => ∃ (n : Nat) (tb' : Tb), i = (n : Int) /\ nv + n = D.fs.length /\ DkP u d (setFs D (bootL keep (D.fs.take n) ++ D.fs.drop n)) r tb' (fun x => F x ∨ w0.heap.size <= x) /\ OnlyP F w0 u, D.fs.length, ⟨0, tb, rfl, rfl, (h0.mono fun x _ hx => .inl hx : DkP w0 d D r tb (fun x => F x ∨ w0.heap.size <= x)), OnlyP.refl _ _⟩, ?_⟩
 rintro nv _ w1 ⟨n, tb', rfl, hnv, h1, hO1⟩
 have z1 := hO1.size
 refine ⟨fun hlt => ?_, fun hge => ?_⟩
 · have hlt : (n : Int) < (l0.n : Int) := of_decide_eq_true hlt
   have hl1 := SliceF.onlyP rTx_ok (by decide) hl0 hO1 fun k hk _ hf => by have := hFh k hf; omega
   obtain ⟨ad, nm, cs, g1, g2, g3, g4, g5, g6⟩ := hl1.get (Int.natCast_nonneg n) hlt
   have g6 : cs = [.string (T nm)] := g6
   subst g6
   rw [Int.toNat_natCast, List.getElem?_map, Option.map_eq_some_iff] at g2
   obtain ⟨f, hfn, hnm⟩ := g2
   have hnl := (List.getElem?_eq_some_iff.1 hfn).1
   have hmem := List.mem_of_getElem? hfn
   have hsf := h.inv.safe f hmem
   have hlen := sumF_mem hmem
   have hdr : D.fs.drop n = f :: D.fs.drop (n + 1) := by
    rw [List.drop_eq_getElem_cons hnl]
    congr 1
    exact (List.getElem?_eq_some_iff.1 hfn).2
   obtain ⟨L, hL⟩ : ∃ L, L = bootL keep (D.fs.take n) ++ D.fs.drop n := ⟨_, rfl⟩
   rw [<- hL] at h1
   have hrise : Rise L := h1.inv.rise
   have hlk : lookF L nm = some f := by rw [<- hnm]; exact hrise.lookF (by rw [hL, hdr]; simp)
   obtain ⟨p, s, ht, hF1⟩ := h1.file hlk
   have l1 := look_of h1.map nm
   rw [ht] at l1
   obtain ⟨bf1, bf2, bf3, bf4, bf5⟩ := bootF_le (ks := keep.drop n) hsf
   have hpos : ∀ x, (x = p ∨ s.a = some ⟨x, 0, none⟩) -> F x ∨ w0.heap.size <= x := fun x hx => (h1.out nm x ⟨p, s, ht, hx⟩).2.2
   refine ⟨ad, g1, T nm, g5, _, h1.mp, _, w1, l1, fun u => ∃ tb1 L1 f1, DkP u d (setFs D L1) r tb1 (fun x => F x ∨ w0.heap.size <= x) /\ tb1 nm = some (p, s) /\ lookF L1 nm = some f1 /\ f1 = { f with sf := (bootF (keep.drop n) f).sf } /\ (∀ g, g.nm = nm -> putF g L1 = putF g L) /\ OnlyP F w0 u, ?_, fun hc w7 hO7 => ?_, fun hc => ?_⟩
   · rintro w3 ⟨tb1, L1, f1, h3, t3, k3, rfl, q3, o3⟩
     refine ⟨_, rfl, fun w4 hO4 => ?_⟩
     have h4 := h3.only0 hO4
     have hF4 := h4.fil nm p s _ t3 k3
     have hr4 := hF4.row.sl.len
     have hc4 := hF4.row.sl.cap
     have hb4 := hF4.row.sl.big
     have z3 := o3.size
     have z4 := hO4.size
     refine ⟨s, Blk.at1 hF4.blk 0 rfl, _, rfl, _, Blk.at1 hF4.blk 1 rfl, (bootF (keep.drop n) f).sf, ⟨rfl, by dsimp only at hr4; omega⟩, ?_⟩
     have hcut := hF4.row.sl.cut (lo := 0) (hi := (bootF (keep.drop n) f).sf) (m := s.c) (by omega) (by dsimp only at hr4; omega) (by dsimp only at hr4; omega) (by omega)
     rw [Nat.sub_zero, List.drop_zero] at hcut
     refine (bclone_c hcut (by rw [List.length_take]; dsimp only; omega)).mono ?_
     rintro _ w5 ⟨⟨t, rfl, ho⟩, hO5⟩
     have z5 := hO5.size
     have h5 := h4.only0 hO5
     have hF5 := h5.fil nm p s _ t3 k3
     refine ⟨t, rfl, _, rfl, p, 0, _, _, rfl, hF5.blk, by simp, fun w6 hO6 hB6 => ?_⟩
     have hne : t.a ≠ some ⟨p, 0, none⟩ := fun hx => by
      have := (ho.blk hx).1
      dsimp only at this
      have := hF4.blk.lt
      omega
     have hput : putF (bootF (keep.drop n) f) L1 = bootL keep (D.fs.take (n + 1)) ++ D.fs.drop (n + 1) := by
      rw [q3 _ (by rw [bf4]; exact hnm), hL, hdr, putF_mid bf4 (by rw [<- hdr, <- hL]; exact hrise), bootL_snoc keep hfn, List.append_assoc]
      rfl
     have hsum : sumF (putF (bootF (keep.drop n) f) L1) <= D.room := by
      have := sum_same (s := nm) (f' := bootF (keep.drop n) f) h5.inv.rise k3 (by rw [bf4]; exact hnm) (by dsimp only; exact bf1)
      exact Nat.le_trans this h5.inv.sum
     have o46 : Only [p] w4 w6 := (hO5.weaken (bs' := [p]) fun _ h => by cases h).trans hO6 fun x hx => .inl hx
     have := h4.setFile (f' := bootF (keep.drop n) f) (s' := t) t3 (by rw [bf4]; exact hnm) (o46.p fun b hb => .inl (.inl (by simpa using hb))) ⟨hB6, RowB.of (B := 0) ((ho.keep rByte_ok fun k hk hlt => hO6.block k hlt (by
       have := hk.elim False.elim fun h => h.2
       simp only [List.mem_singleton]
       rintro rfl
       exact hne this)).low (Nat.zero_le _)), hne⟩ (fun x hx => .inr (by have := (ho.blk hx).1; exact this)) (h4.inv.put (by rw [bf2]; exact Nat.le_refl _) (by rw [bf4]; exact h.inv.nam f hmem) hsum)
     rw [show (setFs D L1).fs = L1 from rfl, hput] at this
     refine ⟨nv - 1, by omega, n + 1, _, by rw [wr' (by omega) (by omega)]; rfl, by omega, this.mono fun x _ hx => hx.elim id fun h => .inr (by omega), ?_⟩
     exact ((o3.tr0 hO4).tr0 hO5).trans (hO6.p (F := fun x => F x ∨ w0.heap.size <= x) fun b hb => .inl (by simp at hb; rw [hb]; exact hpos p (.inl rfl))) fun k hk => hk
   · have hc : (n : Int) < (ka.n : Int) := of_decide_eq_true hc
     have z7 := hO7.size
     have h7 := h1.only0 hO7
     have hF7 := h7.fil nm p s f ht hlk
     have hr7 := hF7.row.sl.len
     have hk7 := SliceF.only rInt_ok (by decide) (SliceF.onlyP rInt_ok (by decide) (SliceF.only rInt_ok (by decide) hkh hO0 (by simp)) hO1 fun k hk _ hf => hG k hk.1 hk.2 hf) hO7 (by simp)
     obtain ⟨kd, x, cs, c1, c2, c3, c4, c5, c6⟩ := hk7.get (Int.natCast_nonneg n) hc
     obtain ⟨rfl, hxi⟩ := c6
     rw [Int.toNat_natCast] at c2
     have hd : keep.drop n = x :: keep.drop (n + 1) := by
      have hl := (List.getElem?_eq_some_iff.1 c2).1
      rw [List.drop_eq_getElem_cons hl]
      congr 1
      exact (List.getElem?_eq_some_iff.1 c2).2
     have hk1 : (bootF (keep.drop n) f).sf = f.sf + modI x (f.bs.length - f.sf + 1) := by rw [hd]; rfl
     have hml := modI_lt x (k := f.bs.length - f.sf + 1) (by omega)
     have ew : IntKind.wrap .i64 (IntKind.wrap .i64 ((s.n : Int) - (f.sf : Int)) + 1) = ((f.bs.length - f.sf + 1 : Nat) : Int) := by
      rw [wr' (x := (s.n : Int) - (f.sf : Int)) (by omega) (by omega), wr' (by omega) (by omega)]
      omega
     refine ⟨fun k => k = p, _, rfl, rfl, _, Blk.at1 hF7.blk 1 rfl, kd, c1, x, c5, _, rfl, s, Blk.at1 hF7.blk 0 rfl, _, rfl, _, Blk.at1 hF7.blk 1 rfl, ?_⟩
     rw [ew]
     refine (modulo_c x (by omega) (by omega)).mono ?_
     rintro _ w8 ⟨rfl, hu⟩
     obtain rfl : w7 = w8 := hu.symm
     refine ⟨_, rfl, fun k _ _ => rfl, _, rfl, p, 1, _, _, rfl, hF7.blk, by simp, fun w9 hO9 hB9 => ?_⟩
     have hB9' : Blk w9 p 66 [s.v, .int .i64 (((bootF (keep.drop n) f).sf : Nat) : Int)] := by
      have e : IntKind.wrap .i64 ((f.sf : Int) + (modI x (f.bs.length - f.sf + 1) : Int)) = (((bootF (keep.drop n) f).sf : Nat) : Int) := by
       rw [wr' (by omega) (by omega), hk1]
       omega
      rw [e] at hB9
      exact hB9
     have hbl : (bootF (keep.drop n) f).sf <= f.bs.length := by omega
     have := h7.setFile (f' := { f with sf := (bootF (keep.drop n) f).sf }) (s' := s) ht hnm (hO9.p fun b hb => .inl (.inl (by simpa using hb))) ⟨hB9', hF7.row.keep fun x hx hlt => hO9.block x hlt (by simp only [List.mem_singleton]; rintro rfl; exact hF7.ne hx), hF7.ne⟩ (fun x hx => .inl hx)
      (h7.inv.put hbl (h.inv.nam f hmem) (Nat.le_trans (sum_same (s := nm) h7.inv.rise hlk hnm (Nat.le_refl _)) h7.inv.sum))
     refine ⟨_, putF { f with sf := (bootF (keep.drop n) f).sf } L, _, this.mono fun x _ hx => hx.elim id fun h => .inr (by omega), if_pos rfl, by rw [putF_look _ _ hrise, if_pos (show nm = _ from hnm.symm)], rfl, fun g hg => putF_putF _ _ (by rw [hg]; exact hnm) _, (hO1.tr0 hO7).trans (hO9.p (F := fun x => F x ∨ w0.heap.size <= x) fun b hb => .inl (by simp at hb; rw [hb]; exact hpos p (.inl rfl))) fun k hk => hk⟩
   · have hc : ¬ (n : Int) < (ka.n : Int) := of_decide_eq_false hc
     have hd : keep.drop n = [] := List.drop_eq_nil_of_le (by omega)
     have : (bootF (keep.drop n) f).sf = f.sf := by rw [hd]; rfl
     exact ⟨tb', L, f, h1, ht, hlk, by rw [this], fun g _ => rfl, hO1⟩
 · have hge : ¬ (n : Int) < (l0.n : Int) := of_decide_eq_false hge
   have hn2 : n = D.fs.length := by omega
   subst hn2
   rw [List.take_length, List.drop_length, List.append_nil] at h1
   obtain ⟨a, b, c, hb, _⟩ := h1.blk
   refine ⟨d, 0, _, _, rfl, hb, by simp, fun w10 hO10 hB10 => ⟨rfl, ?_, ?_⟩⟩
   · have := h1.power hO10 (off := false) (pw := none) (armed := false) (acts := 0) (part := 0) hB10 rfl
     exact ⟨r, tb', this.mono fun x hx hf => hf.imp id fun h => ⟨by omega, hx⟩⟩
   · exact hO0.trP (hO1.trans (hO10.p (F := F) fun b hb => .inl (by simp at hb; rw [hb]; exact h.dr.2.1)) fun k hk => .inl hk)
theorem boot_c (h : DkP w d D r tb F) (hn : D.fs.length <= 4194304) (hm : sumF D.fs <= 140737488355328) {ka : Sl} {keep : List Int} (hk : SliceF rInt 1 w G ka keep) (hG : ∀ k, G k -> k < w.heap.size -> ¬ F k) :
  Calls Try.prog 12 #[.pointer (some ⟨d, 0, none⟩), ka.v] w fun e w' => e = .returned (.tuple #[]) /\ Aft d (bootD D keep) F w w' :=
 (boot_c0 h.heap (fun _ hx => hx.2) hn hm hk fun k hk hlt hf => hG k hk hlt hf.1).mono fun _ _ hh => ⟨hh.1, hh.2.mono fun _ hx => hx.1⟩
end
end Go.Proofs.Ytijipkdbkgafkaa.Con
namespace Go.Kt
open Go Go.RowKit Go.ChangeShapes Go.WideShapes
set_option linter.unusedSimpArgs false
set_option linter.unusedVariables false
def rPair {α β : Type} (r : Rp α) (q : Rp β) : Rp (α × β) := fun w F x cs => ∃ c d, cs = c ++ d /\ r w F x.1 c /\ q w F x.2 d
def rUnit : Rp Unit := fun _ _ _ cs => cs = []
theorem rPair_ok {α β : Type} {r : Rp α} {q : Rp β} (hr : r.Ok) (hq : q.Ok) : (rPair r q).Ok where
 keep := by
  rintro w w' F x cs ⟨c, d, rfl, h1, h2⟩ hk
  exact ⟨c, d, rfl, hr.keep h1 hk, hq.keep h2 hk⟩
 inHeap := by
  rintro w F x cs ⟨c, d, rfl, h1, h2⟩
  exact ⟨c, d, rfl, hr.inHeap h1, hq.inHeap h2⟩
 mono := by
  rintro w F G x cs ⟨c, d, rfl, h1, h2⟩ hk
  exact ⟨c, d, rfl, hr.mono h1 hk, hq.mono h2 hk⟩
 one := by
  rintro w F x cs ⟨c, d, rfl, h1, h2⟩ v hv
  rcases List.mem_append.1 hv with hv | hv
  · exact hr.one h1 v hv
  · exact hq.one h2 v hv
theorem rUnit_ok : rUnit.Ok where
 keep h _ := h
 inHeap h := h
 mono h _ := h
 one h v hv := by rw [show _ = [] from h] at hv; simp at hv
section
variable {H : Type} {enc : TypeId × Value -> H} {P : Program}
theorem trodAll_stays (hl : laidOutB P = true) {W W' : World} {sp : Nat -> Bool} (hb : Below W.heap.size W W') : ∀ {ts : List TypeId} {vs : List Value} {ds : List (DataW H)} {ps : List MemPlace},
  (∀ t, t ∈ ts -> P.readableRec t = true /\ t < P.types.size) -> DataW.TrodAll enc P W 0 (fun _ => true) true ts vs ds ps -> (∀ x, x ∈ ps -> x.block < W.heap.size) -> (∀ x, x ∈ ps -> sp x.block = true) -> DataW.TrodAll enc P W' 0 sp true ts vs ds ps
 | [], vs, ds, ps, _, h, _, _ => by
  obtain ⟨rfl, rfl, rfl⟩ := trodAll_nil h
  exact trodAll_mk0
 | t :: ts, vs, ds, ps, hr, h, hlt, hsp => by
  obtain ⟨v, vs', d, ds', p, q, rfl, rfl, rfl, h1, h2⟩ := trodAll_cons h
  obtain ⟨r1, r2⟩ := hr t (by simp)
  exact trodAll_cons_mk (WideElems.Trod_stays hl r1 r2 h1 (fun x hx => hb.same (hlt x (by simp [hx]))) fun x hx => hsp x (by simp [hx]))
   (trodAll_stays hl hb (fun u hu => hr u (by simp [hu])) h2 (fun x hx => hlt x (by simp [hx])) fun x hx => hsp x (by simp [hx]))
theorem law_post {f : Func} {s : ChangeSpec} {fresh handsOn again : Bool} {W W' : World} {args : Array Value} {ds gs : List (DataW H)} {before : List MemPlace} {tb : TypeId}
  (hW : DataW.Whole enc P f.params.toList s.vars false W args.toList ds gs before) (hv : s.vars = [])
  (hres : (s.fn H (ds ++ gs)).results = [.lit (.bool true)]) (hargs : (s.fn H (ds ++ gs)).args = ds) (hvs : (s.fn H (ds ++ gs)).vars = [])
  (ht : f.resultTypes = #[tb]) (hu : P.underlying tb = some .bool) (hl : laidOutB P = true) (hread0 : (f.params.toList.all fun t => P.readableRec t && decide (t < P.types.size)) = true) (hO : Only [] W W') :
  s.post enc P f false fresh handsOn again W args (.bool true) W' := by
 have hb : Below W.heap.size W W' := hO.below (Nat.le_refl _) (by simp)
 have hread : ∀ t, t ∈ f.params.toList -> P.readableRec t = true /\ t < P.types.size := fun t ht => by simpa using List.all_eq_true.1 hread0 t ht
 have hlt := fun p hp => hW.lt p hp
 obtain ⟨p, q, hA, hV, rfl, hz, hn⟩ := id hW
 rw [hv] at hV
 obtain ⟨rfl, rfl⟩ := trodVars_none hV
 rw [List.append_nil] at *
 have hA' : ∀ sp : Nat -> Bool, (∀ x ∈ p, sp x.block = true) -> DataW.TrodAll enc P W' 0 sp true f.params.toList args.toList (s.fn H ds).args p := fun sp hsp => by
  rw [hargs]
  exact trodAll_stays hl hb hread hA (fun x hx => by simpa using hlt x hx) hsp
 have hV' : ∀ sp : Nat -> Bool, DataW.TrodVars enc P W' sp s.vars (s.fn H ds).vars [] := fun sp => by
  rw [hv, hvs]
  simp [DataW.TrodVars]
 have hres' : ∀ (b : Nat) (sp : Nat -> Bool) (hd : Bool), DataW.TrodAll enc P W' b sp hd f.resultTypes.toList ((Value.bool true).resultList f.resultTypes.size) (s.fn H ds).results [] := fun b sp hd => by
  rw [hres, ht]
  exact trodAll_cons_mk (shut_bool hu true) trodAll_mk0
 have hold : ∀ x ∈ p, (fun b => decide (b < W.heap.size)) x.block = true := fun x hx => by simpa using hlt x hx
 refine ⟨ds, [], p, [], p, [], hW, by simpa using hres' _ _ _, by simpa using hA' _ hold, by simpa using hV' _, World.keptBut_mono (fun x hx => ⟨hx, by simpa using hx⟩) (hb.frame (· ∈ p)), fun _ => ?_⟩
 refine ⟨ok_one ht rfl (okWide_bool_mk hu true), _, _, ([] ++ p) ++ [], ⟨[] ++ p, [], trodAll_append (hA' _ (fun _ _ => rfl)) (hres' _ _ _), hV' _, rfl, ?_, ?_⟩, ?_⟩
 · intro b off hp
   have hp : MemPlace.cell b off ∈ p := by simpa using hp
   rw [hb.frozen (p := ⟨b, off, none⟩) (hlt _ hp)]
   exact hz b off hp
 · intro ha
   cases ha
 · intro x hp _
   simpa using hp
variable {W : World} {base : Nat} {spare : Nat -> Bool} {held : Bool} {α : Type}
def Opens (enc : TypeId × Value -> H) (P : Program) (W : World) (base : Nat) (spare : Nat -> Bool) (held : Bool) (t : TypeId) (r : Rp α) : Prop :=
 ∀ (fuel : Nat) (cs : List Value) (x : DataW H × List MemPlace), DataW.trod enc P W base spare held fuel t cs = some x -> (∀ n, n ∈ x.1.weights P t -> n <= reachBytes) -> ∃ a : α, r W (fun _ => True) a cs
theorem opens_int {t : TypeId} (ht : P.underlying t = some (.int .i64)) : Opens enc P W base spare held t rInt := fun fuel cs x h _ => by
 obtain ⟨n, rfl, rfl, hw⟩ := DataW.trod_int ht h
 refine ⟨n, rfl, ?_⟩
 simpa [Lit.wf, IntKind.min, IntKind.max, IntKind.signed, IntKind.bits, InI] using hw
theorem opens_byte {t : TypeId} (ht : P.underlying t = some (.int .u8)) : Opens enc P W base spare held t rByte := fun fuel cs x h _ => by
 obtain ⟨n, rfl, rfl, hw⟩ := DataW.trod_int ht h
 have hb : 0 <= n /\ n <= 255 := by simpa [Lit.wf, IntKind.min, IntKind.max, IntKind.signed, IntKind.bits] using hw
 refine ⟨UInt8.ofNat n.toNat, ?_⟩
 show _ = [byteV _]
 rw [byteV, UInt8.toNat_ofNat', Nat.mod_eq_of_lt (by omega)]
 congr 2
 omega
def rSl (r : Rp α) (size bytes : Nat) : Rp (List α) := fun w F xs cs => ∃ s : Sl, cs = [s.v] /\ SliceF r size w F s xs /\ xs.length * bytes <= 140737488351232
theorem weightsAll_mem {e : TypeId} : ∀ {l : List (DataW H)} {d : DataW H}, d ∈ l -> ∀ n, n ∈ d.weights P e -> n ∈ DataW.weightsAll P e l
 | d0 :: l, d, hd, n, hn => by
  simp only [DataW.weightsAll, List.mem_append]
  rcases List.mem_cons.1 hd with rfl | hd
  · exact .inl hn
  · exact .inr (weightsAll_mem hd n hn)
 | [], d, hd, _, _ => by simp at hd
theorem choose_list {β : Type} {p : Nat -> β -> Prop} : ∀ (n : Nat), (∀ i, i < n -> ∃ b, p i b) -> ∃ l : List β, l.length = n /\ ∀ i b, l[i]? = some b -> p i b
 | 0, _ => ⟨[], rfl, fun i b h => by simp at h⟩
 | n + 1, h => by
  obtain ⟨l, h1, h2⟩ := choose_list n fun i hi => h i (by omega)
  obtain ⟨b, hb⟩ := h n (by omega)
  refine ⟨l ++ [b], by simp [h1], fun i c hc => ?_⟩
  by_cases hi : i < l.length
  · rw [List.getElem?_append_left hi] at hc; exact h2 i c hc
  · rw [List.getElem?_append_right (by omega)] at hc
    have : i = n := by
     have := (List.getElem?_eq_some_iff.1 hc).1
     simp at this
     omega
    subst this
    simp [h1] at hc
    rw [<- hc]; exact hb
theorem Opens.map {β : Type} {t : TypeId} {r : Rp α} {q : Rp β} (h : Opens enc P W base spare held t r) (f : α -> β) (hf : ∀ a cs, r W (fun _ => True) a cs -> q W (fun _ => True) (f a) cs) : Opens enc P W base spare held t q := fun fuel cs x hx hw => by
 obtain ⟨a, ha⟩ := h fuel cs x hx hw
 exact ⟨f a, hf a cs ha⟩
theorem weights_of {ts : List TypeId} {ds : List (DataW H)} (h : (DataW.weightsEach P ts ds).all (· <= reachBytes) = true) (j : Nat) {t : TypeId} {d : DataW H} (ht : ts[j]? = some t) (hd : ds[j]? = some d) : ∀ n, n ∈ d.weights P t -> n <= reachBytes :=
 fun n hn => by simpa using List.all_eq_true.1 h n (DataW.weights_mem_each ht hd n hn)
end
end Go.Kt
namespace Go.Proofs.Ytijipkdbkgafkaa.Con
open Go Go.RowKit Go.Kt Go.Kt.V Go.Proofs.Ytijipkdbkgafkaa.Vc
set_option linter.unusedSimpArgs false
set_option linter.unusedVariables false
set_option maxHeartbeats 1000000
set_option maxRecDepth 100000
theorem freeze_cell (w : World) (p : Addr) (n : Nat) (a : Addr) : (w.freeze p n).cell? a = w.cell? a := by
 unfold World.freeze
 split
 · rfl
 · unfold World.cell?
   simp only [Array.getElem?_modify]
   by_cases hpa : p.block = a.block
   · rw [if_pos hpa]
     cases h : w.heap[a.block]? with
     | none => rfl
     | some o =>
      cases o with
      | cells c e f => obtain ⟨lo, hi⟩ := f; rfl
      | _ => rfl
   · rw [if_neg hpa]
theorem freeze_only (w : World) (p : Addr) (n : Nat) : OnlyP (fun k => k = p.block) w (w.freeze p n) := by
 unfold World.freeze
 split
 · exact OnlyP.refl _ _
 · exact ⟨rfl, rfl, rfl, by simp, fun k hk hn => by
    simp only [Array.getElem?_modify]
    rw [if_neg fun e => hn e.symm]⟩
theorem els_by (l : List UInt8) (w : World) (F : Nat -> Prop) : Els rByte 1 w F l ((l.map byteV).map fun v => v.cells.toList) := by
 induction l with
 | nil => exact trivial
 | cons a l ih => exact ⟨⟨rfl, rfl⟩, ih⟩
theorem litB (w : World) (l : List UInt8) {n : Nat} {parts : Array (Nat × Value)} (hp : parts = (((l.map byteV).zipIdx 0).map fun x => (x.2, x.1)).toArray) (hl : l.length = n) (h0 : 0 < n) (hs : n * 1 <= 16777216) :
  ∃ s w1, (Instr.buildSlice 33 n parts).run Try.prog w = .ok (Sl.v s) w1 /\ ∃ w2, (convert 33 33 (Sl.v s)).run Try.prog w1 = .ok (Sl.v s) w2 /\ SliceF rByte 1 w2 (fun k => w.heap.size <= k /\ k < w2.heap.size) s l /\ Only [] w w2 := by
 obtain ⟨s, w1, h1, h2, h3, h4, h5, h6⟩ := build_own (P := Try.prog) (t := 33) (e := 5) (i := Try.t5) (w := w) (F := fun _ => False) (r := rByte) (size := 1) (vs := l.map byteV) (xs := l) (len := n) (parts := parts) (by kernel_rfl) (by kernel_rfl) rfl rfl (by decide) hp (by rw [List.length_map]; exact hl) h0 hs rByte_ok (els_by l w _)
 have hsl := flatB h2
 obtain ⟨g', css, tail, a1, a2, a4, _⟩ := h2.resolve_left (fun e => by rw [e.1] at h4; cases h4)
 rw [h4] at a1
 injection a1 with a1
 injection a1 with a1
 subst a1
 have hsh : w1.shape? w.heap.size = some (5, (css.flatten ++ tail).toArray.size) := by
  unfold World.shape?
  unfold Blk at a4
  rw [a4]
 have hu : Try.prog.underlying 33 = some (.slice 5) := by kernel_rfl
 have hu2 : Try.prog.underlying 5 = some (.int .u8) := by kernel_rfl
 have hO := freeze_only w1 ⟨w.heap.size, (css.flatten ++ tail).toArray.size, none⟩ 1
 have z1 := a4.lt
 have z2 := hO.size
 refine ⟨s, w1, h1, w1.freeze ⟨w.heap.size, (css.flatten ++ tail).toArray.size, none⟩ 1, ?_, ⟨hsl.len, hsl.cap, hsl.nil0, hsl.big, fun j x hj => ?_⟩, ?_⟩
 · unfold Sl.v
   rw [h4]
   simp [convert, run_underlying hu, run_underlying hu2, markStringish, hsh, Result.andThen]
 · obtain ⟨base, cs, g1, g2, g3, g4, g5⟩ := hsl.at_ j x hj
   have g2' : w.heap.size <= base.block /\ base.block < (w1.freeze ⟨w.heap.size, (css.flatten ++ tail).toArray.size, none⟩ 1).heap.size := by
    rw [g1] at h4
    injection h4 with h4
    have hb : base.block = w.heap.size := by rw [h4]
    exact ⟨by omega, by omega⟩
   exact ⟨base, cs, g1, g2', g3, fun q v hq => by rw [freeze_cell]; exact g4 q v hq, g5⟩
 · exact (h3.trP (hO.mono fun k _ hk => hk)).only fun k hk => by rw [hk]; exact Nat.le_refl _
theorem els_bs {w : World} : ∀ (l : List (Sl × List UInt8)), (∀ q, q ∈ l -> ∃ G, SliceF rByte 1 w G q.1 q.2) -> Els rBs 1 w (fun _ => True) (l.map (·.2)) ((l.map fun q => q.1.v).map fun v => v.cells.toList)
 | [], _ => trivial
 | q :: l, h => by
  obtain ⟨G, hG⟩ := h q (.head _)
  exact ⟨⟨rfl, q.1, rfl, SliceF.mono rByte_ok hG fun _ _ => trivial⟩, els_bs l fun x hx => h x (.tail _ hx)⟩
theorem litR (w : World) (l : List (Sl × List UInt8)) {n : Nat} {parts : Array (Nat × Value)} (hp : parts = (((l.map fun q => q.1.v).zipIdx 0).map fun x => (x.2, x.1)).toArray) (hl : l.length = n) (h0 : 0 < n) (hs : n * 1 <= 16777216) (h : ∀ q, q ∈ l -> ∃ G, SliceF rByte 1 w G q.1 q.2) :
  ∃ s w1, (Instr.buildSlice 58 n parts).run Try.prog w = .ok (Sl.v s) w1 /\ Own rBs 1 33 w.heap.size w1 (fun _ => True) s (l.map (·.2)) /\ Only [] w w1 /\ s.a = some ⟨w.heap.size, 0, none⟩ := by
 obtain ⟨s, w1, h1, h2, h3, h4, h5, h6⟩ := build_own (P := Try.prog) (t := 58) (e := 33) (i := Try.t33) (w := w) (F := fun _ => True) (r := rBs) (size := 1) (vs := l.map fun q => q.1.v) (xs := l.map (·.2)) (len := n) (parts := parts) (by kernel_rfl) (by kernel_rfl) rfl rfl (by decide) hp (by rw [List.length_map]; exact hl) h0 hs rBs_ok (els_bs l h)
 exact ⟨s, w1, h1, h2, h3, h4⟩
structure Dq (w u : World) (d : Nat) (D : Dk) (F : Nat -> Prop) : Prop where
 dsk : Dsk u d D F
 new : ∀ k, F k -> w.heap.size <= k
 only : Only [] w u
section
variable {w u u' : World} {d : Nat} {D D' : Dk} {F G : Nat -> Prop}
theorem Dq.skip (h : Dq w u d D F) (hO : Only [] u u') : Dq w u' d D F := by
 obtain ⟨⟨r, tb, h1⟩, h2, h3⟩ := h
 exact ⟨⟨r, tb, h1.only0 hO⟩, h2, h3.tr0 hO⟩
theorem Dq.aft (h : Dq w u d D F) (ha : Aft d D' F u u') : Dq w u' d D' (Gr F u u') := by
 have := h.only.size
 exact ⟨ha.1, fun k hk => hk.elim (h.new k) fun hk => Nat.le_trans this hk.1, (h.only.trP (F := F) ha.2).only h.new⟩
theorem Dq.append (h : Dq w u d D F) {parts : Sl} {ls : List (List UInt8)} (hp : SliceF rBs 1 u G parts ls) (ha : parts.a = none ∨ ∃ b, parts.a = some ⟨b, 0, none⟩) (hm : sumF D.fs + ls.flatten.length <= 140737488355328) (hn : ls.length <= 140737488355328) (s : List UInt8) :
  Calls Try.prog 10 #[.pointer (some ⟨d, 0, none⟩), .string (T s), parts.v] u fun e u' => e = .returned (.int .i64 (appD D s ls).1) /\ Dq w u' d (appD D s ls).2 (Gr F u u') := by
 obtain ⟨r, tb, h1⟩ := h.dsk
 exact (append_c h1 hp ha hm hn s).mono fun _ _ hh => ⟨hh.1, h.aft hh.2⟩
theorem Dq.sync (h : Dq w u d D F) (s : List UInt8) : Calls Try.prog 14 #[.pointer (some ⟨d, 0, none⟩), .string (T s)] u fun e u' => e = .returned (.int .i64 (syncD D s).1) /\ Dq w u' d (syncD D s).2 (Gr F u u') := by
 obtain ⟨r, tb, h1⟩ := h.dsk
 exact (sync_c h1 s).mono fun _ _ hh => ⟨hh.1, h.aft hh.2⟩
theorem Dq.cut (h : Dq w u d D F) (s : List UInt8) {n : Int} (hi : InI n) : Calls Try.prog 15 #[.pointer (some ⟨d, 0, none⟩), .string (T s), .int .i64 n] u fun e u' => e = .returned (.int .i64 (cutD D s n).1) /\ Dq w u' d (cutD D s n).2 (Gr F u u') := by
 obtain ⟨r, tb, h1⟩ := h.dsk
 exact (cut_c h1 s hi).mono fun _ _ hh => ⟨hh.1, h.aft hh.2⟩
theorem Dq.up (h : Dq w u d D F) : Calls Try.prog 11 #[.pointer (some ⟨d, 0, none⟩)] u fun e u' => e = .returned (.bool (!D.off)) /\ u' = u := by
 obtain ⟨r, tb, h1⟩ := h.dsk
 exact up_c h1
theorem Dq.free (h : Dq w u d D F) : Calls Try.prog 18 #[.pointer (some ⟨d, 0, none⟩)] u fun e u' => e = .returned (.int .i64 ((D.room : Int) - sumF D.fs)) /\ Dq w u' d D F /\ Only [] u u' := by
 obtain ⟨r, tb, h1⟩ := h.dsk
 exact (free_c h1).mono fun _ _ hh => ⟨hh.1, h.skip hh.2, hh.2⟩
theorem Dq.files (h : Dq w u d D F) (hn : D.fs.length <= 4194304) (hm : sumF D.fs <= 140737488355328) : Calls Try.prog 13 #[.pointer (some ⟨d, 0, none⟩)] u fun e u' => (∃ t : Sl, e = .returned t.v /\ Own rFl 3 38 u.heap.size u' (fun k => u.heap.size <= k) t D.fs) /\ Dq w u' d D F /\ Only [] u u' := by
 obtain ⟨r, tb, h1⟩ := h.dsk
 exact (files_c h1 hn hm).mono fun _ _ hh => ⟨hh.1, h.skip hh.2, hh.2⟩
theorem Dq.boot (h : Dq w u d D F) (hn : D.fs.length <= 4194304) (hm : sumF D.fs <= 140737488355328) {ka : Sl} {keep : List Int} (hk : SliceF rInt 1 u G ka keep) (hG : ∀ k, G k -> k < u.heap.size -> ¬ F k) :
  Calls Try.prog 12 #[.pointer (some ⟨d, 0, none⟩), ka.v] u fun e u' => e = .returned (.tuple #[]) /\ Dq w u' d (bootD D keep) (Gr F u u') := by
 obtain ⟨r, tb, h1⟩ := h.dsk
 exact (boot_c h1 hn hm hk hG).mono fun _ _ hh => ⟨hh.1, h.aft hh.2⟩
theorem Dq.heap (h : Dq w u d D F) : Dq w u d D (fun x => F x /\ x < u.heap.size) := by
 obtain ⟨⟨r, tb, h1⟩, h2, h3⟩ := h
 exact ⟨⟨r, tb, h1.heap⟩, fun k hk => h2 k hk.1, h3⟩
theorem Dq.inv (h : Dq w u d D F) : Inv D := by
 obtain ⟨r, tb, h1⟩ := h.dsk
 exact h1.inv
theorem cells_nth {a : Addr} {cs : List Value} (h : Cells u a cs) (i : Nat) {v : Value} (hv : cs[i]? = some v) : Cells u (a.add i) [v] := fun j x hj => by
 cases j with
 | zero =>
  simp only [List.getElem?_cons_zero, Option.some.injEq] at hj
  subst hj
  exact h i v hv
 | succ j => simp at hj
theorem file_at {t : Sl} {L : List Fl} {B : Nat} {e : TypeId} {H : Nat -> Prop} (h : Own rFl 3 e B u H t L) {i : Nat} {f : Fl} (hf : L[i]? = some f) : ∃ (ad : Addr) (s : Sl), SlAt t (i : Int) 3 ad /\ Cells u (ad.add 0) [.string (T f.nm)] /\ Cells u (ad.add 1) [s.v] /\ Cells u (ad.add 2) [.int .i64 (f.sf : Int)] /\ Own rByte 1 5 0 u (fun _ => False) s f.bs := by
 have hs := h.slice rFl_ok
 have hl := (List.getElem?_eq_some_iff.1 hf).1
 have hn := hs.len
 obtain ⟨ad, x, cs, g1, g2, g3, g4, g5, s, rfl, g6, g7⟩ := hs.get (i := (i : Int)) (Int.natCast_nonneg i) (by omega)
 rw [Int.toNat_natCast, hf] at g2
 injection g2 with g2
 subst g2
 exact ⟨ad, s, g1, cells_nth g5 0 rfl, cells_nth g5 1 rfl, cells_nth g5 2 rfl, g6⟩
end
theorem sm1 : appD (newD 4) [97] [[120], [121]] = (0, ⟨[⟨[97], [120, 121], 0⟩], false, none, 4⟩) := by kernel_rfl
theorem sm2 : syncD ⟨[⟨[97], [120, 121], 0⟩], false, none, 4⟩ [97] = (0, ⟨[⟨[97], [120, 121], 2⟩], false, none, 4⟩) := by kernel_rfl
theorem sm3 : appD ⟨[⟨[97], [120, 121], 2⟩], false, none, 4⟩ [97] [[122, 119]] = (0, ⟨[⟨[97], [120, 121, 122, 119], 2⟩], false, none, 4⟩) := by kernel_rfl
theorem sm4 : appD ⟨[⟨[97], [120, 121, 122, 119], 2⟩], false, none, 4⟩ [97] [[113]] = (52, ⟨[⟨[97], [120, 121, 122, 119], 2⟩], false, none, 4⟩) := by kernel_rfl
theorem sm5 : bootD ⟨[⟨[97], [120, 121, 122, 119], 2⟩], false, none, 4⟩ [1] = ⟨[⟨[97], [120, 121, 122], 3⟩], false, none, 4⟩ := by kernel_rfl
theorem lit1i (w : World) {a : Int} (ha : InI a) : ∃ s w1, (Instr.buildSlice 41 1 #[.mk 0 (.int .i64 a)]).run Try.prog w = .ok (Sl.v s) w1 /\ SliceF rInt 1 w1 (fun k => w.heap.size <= k) s [a] /\ Only [] w w1 := by
 obtain ⟨s, w1, h1, h2, h3, h4, h5, h6⟩ := build_own (P := Try.prog) (t := 41) (e := 3) (i := Try.t3) (w := w) (F := fun _ => False) (r := rInt) (size := 1) (vs := [.int .i64 a]) (xs := [a]) (len := 1) (parts := #[(0, .int .i64 a)]) (by kernel_rfl) (by kernel_rfl) rfl rfl (by decide) rfl rfl (by decide) (by decide) rInt_ok ⟨⟨rfl, rfl, ha⟩, trivial⟩
 exact ⟨s, w1, h1, SliceF.mono rInt_ok (h2.slice rInt_ok) fun k hk => hk.elim False.elim fun h => h.1, h3⟩
theorem dsmall_c (w : World) : Calls Try.prog 7 #[] w fun e w' => e = .returned (.bool true) /\ Only [] w w' := by
 refine ret (v22w (fun v w' => v = .bool true /\ Only [] w w') w ?_)
 unfold v22v
 refine (new_c w (room := 4) ⟨by decide, by decide⟩).mono ?_
 rintro _ w0 ⟨d, rfl, hd, hO0⟩
 have q0 : Dq w w0 d (newD 4) _ := ⟨hd, fun k hk => hk.1, hO0⟩
 refine ⟨_, rfl, fun h => (by cases h), fun _ => ?_⟩
 obtain ⟨l0, w1, b1, w2, b2, b3, b4⟩ := litB w0 [120] (n := 1) (parts := #[.mk 0 (.int .u8 120)]) rfl rfl (by decide) (by decide)
 obtain ⟨l2, w3, c1, w4, c2, c3, c4⟩ := litB w2 [121] (n := 1) (parts := #[.mk 0 (.int .u8 121)]) rfl rfl (by decide) (by decide)
 obtain ⟨l4, w5, d1, d2, d3, d4⟩ := litR w4 [(l0, [120]), (l2, [121])] (n := 2) (parts := #[.mk 0 l0.v, .mk 1 l2.v]) rfl rfl (by decide) (by decide) (fun q hq => by
  rcases List.mem_cons.1 hq with rfl | hq
  · exact ⟨_, SliceF.only rByte_ok (by decide) b3 c4 (by simp)⟩
  · rw [List.mem_singleton.1 hq]; exact ⟨_, c3⟩)
 refine ⟨l0, w1, b1, l0, w2, b2, l2, w3, c1, l2, w4, c2, l4, w5, d1, ?_⟩
 refine (((q0.skip b4).skip c4).skip d3).append (G := fun _ => True) (ls := [[120], [121]]) (SliceF.mono rBs_ok (d2.slice rBs_ok) fun _ _ => trivial) (.inr ⟨_, d4⟩) (by decide) (by decide) [97] |>.mono ?_
 rintro _ w6 ⟨rfl, q6⟩
 rw [sm1] at q6 ⊢
 refine ⟨_, rfl, (q6.sync [97]).mono ?_⟩
 rintro _ w7 ⟨rfl, q7⟩
 rw [sm2] at q7 ⊢
 obtain ⟨l5, w8, e1, w9, e2, e3, e4⟩ := litB w7 [122, 119] (n := 2) (parts := #[.mk 0 (.int .u8 122), .mk 1 (.int .u8 119)]) rfl rfl (by decide) (by decide)
 obtain ⟨l7, w10, f1, f2, f3, f4⟩ := litR w9 [(l5, [122, 119])] (n := 1) (parts := #[.mk 0 l5.v]) rfl rfl (by decide) (by decide) (fun q hq => by rw [List.mem_singleton.1 hq]; exact ⟨_, e3⟩)
 refine ⟨_, rfl, l5, w8, e1, l5, w9, e2, l7, w10, f1, ?_⟩
 refine ((q7.skip e4).skip f3).append (G := fun _ => True) (ls := [[122, 119]]) (SliceF.mono rBs_ok (f2.slice rBs_ok) fun _ _ => trivial) (.inr ⟨_, f4⟩) (by decide) (by decide) [97] |>.mono ?_
 rintro _ w11 ⟨rfl, q11⟩
 rw [sm3] at q11 ⊢
 obtain ⟨l8, w12, g1, w13, g2, g3, g4⟩ := litB w11 [113] (n := 1) (parts := #[.mk 0 (.int .u8 113)]) rfl rfl (by decide) (by decide)
 obtain ⟨l10, w14, h1, h2, h3, h4⟩ := litR w13 [(l8, [113])] (n := 1) (parts := #[.mk 0 l8.v]) rfl rfl (by decide) (by decide) (fun q hq => by rw [List.mem_singleton.1 hq]; exact ⟨_, g3⟩)
 refine ⟨_, rfl, l8, w12, g1, l8, w13, g2, l10, w14, h1, ?_⟩
 refine ((q11.skip g4).skip h3).append (G := fun _ => True) (ls := [[113]]) (SliceF.mono rBs_ok (h2.slice rBs_ok) fun _ _ => trivial) (.inr ⟨_, h4⟩) (by decide) (by decide) [97] |>.mono ?_
 rintro _ w15 ⟨rfl, q15⟩
 rw [sm4] at q15 ⊢
 obtain ⟨l11, w16, i1, i2, i3⟩ := lit1i w15 (a := 1) ⟨by decide, by decide⟩
 have q15 := q15.heap
 refine ⟨_, rfl, l11, w16, i1, ((q15.skip i3).boot (by decide) (by decide) i2 fun k hk _ hf => by have := hf.2; omega).mono ?_⟩
 rintro _ w17 ⟨rfl, q17⟩
 rw [sm5] at q17
 refine ⟨rfl, (q17.files (by decide) (by decide)).mono ?_⟩
 rintro _ w18 ⟨⟨l12, rfl, hl⟩, q18, hO18⟩
 have hn : l12.n = 1 := hl.len
 obtain ⟨ad, s, j1, j2, j3, j4, j5⟩ := file_at (f := ⟨[97], [120, 121, 122], 3⟩) hl (i := 0) rfl
 have hby := (SliceF.bytes (flatB j5)).rd
 refine ⟨l12, rfl, fun b u => b = true /\ Only [] w u, fun b u h => ⟨by rw [h.1], h.2⟩, ad, fun _ => j1, s, fun _ => j3, [120, 121, 122], fun _ => hby, ad, fun _ => j1, 3, fun _ => j4, fun _ => ⟨_, rfl, (q18.up).mono ?_⟩, fun hc => ?_⟩
 · rintro _ w20 ⟨rfl, hu⟩
   obtain rfl : w18 = w20 := hu.symm
   refine ⟨_, rfl, fun _ => (q18.free).mono ?_, fun h => (by cases h)⟩
   rintro _ w21 ⟨rfl, q21, _⟩
   exact ⟨_, rfl, rfl, q21.only⟩
 · rw [hn] at hc
   exact absurd hc (by simp [Lib.toList_data])
end Go.Proofs.Ytijipkdbkgafkaa.Con
namespace Go.Proofs.Ytijipkdbkgafkaa.Con
open Go Go.RowKit Go.Kt
set_option linter.unusedSimpArgs false
set_option linter.unusedVariables false
set_option maxHeartbeats 1000000
set_option maxRecDepth 100000
abbrev ActT := Int × ByteArray × ByteArray × List UInt8 × List UInt8 × Int × Int × List Int × Unit
def ActT.nm (x : ActT) : List UInt8 := x.2.1.data.toList
def ActT.to (x : ActT) : List UInt8 := x.2.2.1.data.toList
def ActT.b (x : ActT) : List UInt8 := x.2.2.2.1
def ActT.c (x : ActT) : List UInt8 := x.2.2.2.2.1
def ActT.n (x : ActT) : Int := x.2.2.2.2.2.1
def ActT.m (x : ActT) : Int := x.2.2.2.2.2.2.1
def ActT.l (x : ActT) : List Int := x.2.2.2.2.2.2.2.1
def mA (x : ActT) : Nat := x.b.length + x.c.length
def stepR (D : Dk) (x : ActT) : Int × Dk :=
 if x.1 = 0 then appD D x.nm [x.b, x.c] else if x.1 = 1 then syncD D x.nm else if x.1 = 2 then cutD D x.nm x.n else if x.1 = 3 then renD D x.nm x.to
 else if x.1 = 4 then remD D x.nm else if x.1 = 6 then (0, armD D x.n x.m) else if x.1 = 7 then (0, bootD D x.l) else (0, D)
theorem sum_le {α : Type} {l : List α} {f g : α -> Nat} (h : ∀ x, f x <= g x) : (l.map f).sum <= (l.map g).sum := by
 induction l with
 | nil => exact Nat.le_refl _
 | cons a l ih =>
  rw [List.map_cons, List.map_cons, List.sum_cons, List.sum_cons]
  have := h a
  omega
structure Le (D E : Dk) (m : Nat) : Prop where
 sum : sumF E.fs <= sumF D.fs + m
 len : E.fs.length <= D.fs.length + 1
 room : E.room = D.room
theorem Le.same (D : Dk) (m : Nat) : Le D D m := ⟨by omega, by omega, rfl⟩
theorem put_le {D : Dk} (hr : Rise D.fs) {f' : Fl} {s : List UInt8} {m : Nat} (hn : f'.nm = s) (hl : f'.bs.length <= (getF D s).bs.length + m) : sumF (putF f' D.fs) <= sumF D.fs + m := by
 have := putF_sum f' hr
 rw [hn] at this
 have gl : ((lookF D.fs s).map (·.bs.length)).getD 0 = (getF D s).bs.length := by
  rw [getF]
  cases lookF D.fs s <;> rfl
 rw [gl] at this
 omega
theorem put_len {l : List Fl} (hr : Rise l) (f : Fl) : (putF f l).length <= l.length + 1 := by
 rw [putF_len f hr]
 split <;> omega
theorem app_le {D : Dk} (h : Inv D) (s : List UInt8) (ls : List (List UInt8)) : Le D (appD D s ls).2 ls.flatten.length := by
 obtain ⟨e1, e2⟩ := cutP_fs D
 unfold appD
 split
 · exact Le.same _ _
 · split
   · exact Le.same _ _
   · split
     · exact Le.same _ _
     · rcases hc : cutP D with ⟨g, E⟩
       rw [hc] at e1 e2
       dsimp only at e1 e2
       cases g with
       | none =>
        refine ⟨?_, ?_, e2⟩
        · show sumF (putF _ E.fs) <= _
          rw [e1]
          exact put_le h.rise (s := s) (getF_nm D s) (by dsimp only; rw [List.length_append]; omega)
        · show (putF _ E.fs).length <= _
          rw [e1]
          exact put_len h.rise _
       | some p =>
        refine ⟨?_, ?_, e2⟩
        · show sumF (putF _ E.fs) <= _
          rw [e1]
          exact put_le h.rise (s := s) (getF_nm D s) (by dsimp only; rw [List.length_append, List.length_take]; omega)
        · show (putF _ E.fs).length <= _
          rw [e1]
          exact put_len h.rise _
theorem sync_le {D : Dk} (h : Inv D) (s : List UInt8) : Le D (syncD D s).2 0 := by
 obtain ⟨e1, e2⟩ := cutP_fs D
 unfold syncD
 split
 · exact Le.same _ _
 · rcases hc : cutP D with ⟨g, E⟩
   rw [hc] at e1 e2
   dsimp only at e1 e2
   cases g with
   | none =>
    refine ⟨?_, ?_, e2⟩
    · show sumF (putF _ E.fs) <= _
      rw [e1]
      exact put_le h.rise (s := s) (getF_nm D s) (Nat.le_refl _)
    · show (putF _ E.fs).length <= _
      rw [e1]
      exact put_len h.rise _
   | some p => exact ⟨by dsimp only; rw [e1]; omega, by dsimp only; rw [e1]; omega, e2⟩
theorem whole_le {D : Dk} {op : List Fl -> List Fl} (h1 : sumF (op D.fs) <= sumF D.fs) (h2 : (op D.fs).length <= D.fs.length + 1) : Le D (wholeD D op).2 0 := by
 obtain ⟨e1, e2⟩ := cutP_fs D
 unfold wholeD
 rcases hc : cutP D with ⟨g, E⟩
 rw [hc] at e1 e2
 dsimp only at e1 e2
 cases g with
 | none => exact ⟨by show sumF (op E.fs) <= _; rw [e1]; omega, by show (op E.fs).length <= _; rw [e1]; exact h2, e2⟩
 | some p =>
  dsimp only
  split
  · exact ⟨by show sumF (op E.fs) <= _; rw [e1]; omega, by show (op E.fs).length <= _; rw [e1]; exact h2, e2⟩
  · exact ⟨by rw [e1]; omega, by rw [e1]; omega, e2⟩
theorem cut_le {D : Dk} (h : Inv D) (s : List UInt8) (n : Int) : Le D (cutD D s n).2 0 := by
 unfold cutD
 split
 · exact Le.same _ _
 · split
   · exact Le.same _ _
   · exact whole_le (put_le h.rise (s := s) (m := 0) rfl (by dsimp only; rw [List.length_take]; omega)) (put_len h.rise _)
theorem find_some {D : Dk} {s : List UInt8} (h : ¬ findE D s ≠ 0) : ∃ f, lookF D.fs s = some f := by
 unfold findE at h
 split at h
 · simp at h
 · split at h
   · simp at h
   · rename_i hn
     cases hq : lookF D.fs s with
     | none => exact absurd hq hn
     | some f => exact ⟨f, rfl⟩
theorem ren_le {D : Dk} (h : Inv D) (a b : List UInt8) : Le D (renD D a b).2 0 := by
 unfold renD
 split
 · exact Le.same _ _
 · rename_i hf
   obtain ⟨f, hf⟩ := find_some hf
   split
   · exact Le.same _ _
   · rw [getF_some hf]
     refine whole_le ?_ ?_
     · have s1 := putF_sum { f with nm := b } (dropF_rise a h.rise)
       have s2 := dropF_sum h.rise hf
       dsimp only at s1 ⊢
       omega
     · have s1 := put_len (dropF_rise a h.rise) { f with nm := b }
       have s2 := dropF_len hf
       dsimp only at s1 ⊢
       omega
theorem rem_le {D : Dk} (h : Inv D) (s : List UInt8) : Le D (remD D s).2 0 := by
 unfold remD
 split
 · exact Le.same _ _
 · refine whole_le (sumF_sub (dropF_sub s D.fs)) ?_
   have := (dropF_sub s D.fs).length_le
   omega
theorem bootF_len {ks : List Int} {f : Fl} : (bootF ks f).bs.length <= f.bs.length := by
 unfold bootF
 dsimp only
 rw [List.length_take]
 exact Nat.min_le_right _ _
theorem bootL_le : ∀ (ks : List Int) (l : List Fl), sumF (bootL ks l) <= sumF l /\ (bootL ks l).length = l.length
 | _, [] => ⟨Nat.le_refl _, rfl⟩
 | ks, f :: l => by
  obtain ⟨h1, h2⟩ := bootL_le ks.tail l
  rw [bootL, sumF, sumF, List.length_cons, List.length_cons, h2]
  have := bootF_len (ks := ks) (f := f)
  exact ⟨by omega, rfl⟩
theorem boot_le (D : Dk) (ks : List Int) : Le D (bootD D ks) 0 := by
 obtain ⟨h1, h2⟩ := bootL_le ks D.fs
 exact ⟨h1, by show (bootL ks D.fs).length <= _; omega, rfl⟩
theorem step_le {D : Dk} (h : Inv D) (x : ActT) : Le D (stepR D x).2 (mA x) := by
 have up : ∀ {E : Dk}, Le D E 0 -> Le D E (mA x) := fun h => ⟨by have := h.sum; omega, h.len, h.room⟩
 unfold stepR
 split
 · have := app_le h x.nm [x.b, x.c]
   simpa [mA] using this
 · split
   · exact up (sync_le h _)
   · split
     · exact up (cut_le h _ _)
     · split
       · exact up (ren_le h _ _)
       · split
         · exact up (rem_le h _)
         · split
           · exact up ⟨Nat.le_refl _, Nat.le_succ _, rfl⟩
           · split
             · exact up (boot_le D _)
             · exact up (Le.same _ _)
theorem whole_code {D : Dk} {op : List Fl -> List Fl} (h0 : (wholeD D op).1 ≠ 0) (h5 : (wholeD D op).1 ≠ 50) : False := by
 unfold wholeD at h0 h5
 rcases hc : cutP D with ⟨g, E⟩
 rw [hc] at h0 h5
 cases g with
 | none => exact h0 rfl
 | some p => exact h5 rfl
theorem step_same {D : Dk} {x : ActT} (h0 : (stepR D x).1 ≠ 0) (h5 : (stepR D x).1 ≠ 50) : (stepR D x).2 = D := by
 unfold stepR at h0 h5 ⊢
 split at h0
 · rename_i hx
   rw [if_pos hx] at h5 ⊢
   unfold appD at h0 h5 ⊢
   split at h0
   · rename_i ho
     rw [if_pos ho] at h5
     exact absurd rfl h5
   · rename_i ho
     rw [if_neg ho] at h5 ⊢
     split at h0
     · rename_i hn
       rw [if_pos hn]
     · rename_i hn
       rw [if_neg hn] at h5 ⊢
       split at h0
       · rename_i hr
         rw [if_pos hr]
       · rename_i hr
         rw [if_neg hr] at h5
         rcases hc : cutP D with ⟨g, E⟩
         rw [hc] at h0 h5
         cases g with
         | none => exact absurd rfl h0
         | some p => exact absurd rfl h5
 · rename_i hx
   rw [if_neg hx] at h5 ⊢
   split at h0
   · rename_i hx
     rw [if_pos hx] at h5 ⊢
     unfold syncD at h0 h5 ⊢
     split at h0
     · rename_i hf
       rw [if_pos hf]
     · rename_i hf
       rw [if_neg hf] at h5
       rcases hc : cutP D with ⟨g, E⟩
       rw [hc] at h0 h5
       cases g with
       | none => exact absurd rfl h0
       | some p => exact absurd rfl h5
   · rename_i hx
     rw [if_neg hx] at h5 ⊢
     split at h0
     · rename_i hx
       rw [if_pos hx] at h5 ⊢
       unfold cutD at h0 h5 ⊢
       split at h0
       · rename_i hf
         rw [if_pos hf]
       · rename_i hf
         rw [if_neg hf] at h5 ⊢
         split at h0
         · rename_i hg
           rw [if_pos hg]
         · rename_i hg
           rw [if_neg hg] at h5
           exact (whole_code h0 h5).elim
     · rename_i hx
       rw [if_neg hx] at h5 ⊢
       split at h0
       · rename_i hx
         rw [if_pos hx] at h5 ⊢
         unfold renD at h0 h5 ⊢
         split at h0
         · rename_i hf
           rw [if_pos hf]
         · rename_i hf
           rw [if_neg hf] at h5 ⊢
           split at h0
           · rename_i hg
             rw [if_pos hg]
           · rename_i hg
             rw [if_neg hg] at h5
             exact (whole_code h0 h5).elim
       · rename_i hx
         rw [if_neg hx] at h5 ⊢
         split at h0
         · rename_i hx
           rw [if_pos hx] at h5 ⊢
           unfold remD at h0 h5 ⊢
           split at h0
           · rename_i hf
             rw [if_pos hf]
           · rename_i hf
             rw [if_neg hf] at h5
             exact (whole_code h0 h5).elim
         · split at h0
           · exact absurd rfl h0
           · split at h0
             · exact absurd rfl h0
             · exact absurd rfl h0
end Go.Proofs.Ytijipkdbkgafkaa.Con
namespace Go.Kt
open Go Go.RowKit Go.ChangeShapes Go.WideShapes
set_option linter.unusedSimpArgs false
set_option linter.unusedVariables false
structure IsBulk {H : Type} (B : DataW H -> Nat) : Prop where
 one : ∀ d, 1 <= B d
 sl : ∀ e s, (e.map B).sum + 1 <= B (.slice e s)
 str : ∀ b, b.length + 1 <= B (.lit (.string b))
 agg : ∀ p, (p.map B).sum + 1 <= B (.agg p)
 ptr : ∀ d, B d + 1 <= B (.ptr d)
 iface : ∀ t d, B d + 1 <= B (.iface t d)
section
variable {H : Type} {enc : TypeId × Value -> H} {P : Program} {W : World} {base : Nat} {spare : Nat -> Bool} {held : Bool} {α β : Type} {B : DataW H -> Nat}
def rStr : Rp ByteArray := fun _ _ s cs => cs = [.string s] /\ s.size <= 140737488351232
theorem rStr_ok : rStr.Ok where
 keep h _ := h
 inHeap h := h
 mono h _ := h
 one := by
  rintro w F x cs ⟨rfl, _⟩ v hv
  simp only [List.mem_singleton] at hv
  subst hv; rfl
def OpensB (B : DataW H -> Nat) (enc : TypeId × Value -> H) (P : Program) (W : World) (base : Nat) (spare : Nat -> Bool) (held : Bool) (t : TypeId) (r : Rp α) (m : α -> Nat) : Prop :=
 ∀ (fuel : Nat) (cs : List Value) (x : DataW H × List MemPlace), DataW.trod enc P W base spare held fuel t cs = some x -> (∀ n, n ∈ x.1.weights P t -> n <= reachBytes) -> ∃ a : α, r W (fun _ => True) a cs /\ m a <= B x.1
theorem opensB_of (hB : IsBulk B) {t : TypeId} {r : Rp α} (h : Opens enc P W base spare held t r) : OpensB B enc P W base spare held t r fun _ => 1 := fun fuel cs x hx hw => by
 obtain ⟨a, ha⟩ := h fuel cs x hx hw
 exact ⟨a, ha, hB.one _⟩
theorem opensB_str (hB : IsBulk B) {t : TypeId} (ht : P.underlying t = some .string) : OpensB B enc P W base spare held t rStr fun s => s.size + 1 := fun fuel cs x h hw => by
 obtain ⟨s, rfl, rfl, hs⟩ := DataW.trod_string ht h
 have h1 := hw _ (by simp only [DataW.weights]; exact List.mem_cons_self)
 have e : s.data.toList.length = s.size := by rw [Array.length_toList]; rfl
 simp only [e, reachBytes] at h1
 refine ⟨s, ⟨rfl, ?_⟩, ?_⟩
 · omega
 · have := hB.str s.data.toList
   rw [e] at this
   exact this
theorem sum_le {p : α -> Nat} {g : Nat -> Nat} : ∀ {l : List α} {o : Nat}, (∀ i b, l[i]? = some b -> p b <= g (o + i)) -> (l.map p).sum <= ((List.range l.length).map fun i => g (o + i)).sum
 | [], _, _ => by simp
 | a :: l, o, h => by
  rw [List.length_cons, List.range_succ_eq_map, List.map_cons, List.map_cons, List.sum_cons, List.sum_cons, List.map_map]
  have h0 := h 0 a rfl
  have ih := sum_le (p := p) (g := g) (l := l) (o := o + 1) fun i b hb => by
   have := h (i + 1) b hb
   rw [show o + 1 + i = o + (i + 1) by omega]
   exact this
  refine Nat.add_le_add h0 (Nat.le_trans ih (Nat.le_of_eq ?_))
  congr 1
  refine List.map_congr_left fun i _ => ?_
  show g _ = g _
  congr 1
  omega
theorem opensB_slice (hB : IsBulk B) {t e : TypeId} {r : Rp α} {m : α -> Nat} {size : Nat} (ht : P.underlying t = some (.slice e)) (hs : P.cellsOf e = size) {bytes : Nat} (hb : P.bytesOf e = bytes) (he : OpensB B enc P W base spare held e r m) :
  OpensB B enc P W base spare held t (rSl r size bytes) fun xs => (xs.map m).sum + 1 := fun fuel cs x h hw => by
 subst hs
 rcases Deep.open_slice ht h with ⟨rfl, rfl⟩ | ⟨a, len, cap, mm, n, D, Pl, rfl, _, hl, hm, hmm, rfl, hel⟩
 · exact ⟨[], ⟨Sl.nil, rfl, SliceF.nil _ _ _ _, by simp⟩, hB.one _⟩
 · have hlm : len <= mm := by rw [hmm]; split <;> omega
   have hex : ∀ i, i < len -> ∃ b : α, (∃ cs', cs'.length = P.cellsOf e /\ Cells W (a.add (i * P.cellsOf e)) cs' /\ r W (fun _ => True) b cs') /\ m b <= B (D i) := fun i hi => by
    obtain ⟨cs', g1, g2⟩ := hel i (by omega)
    obtain ⟨_, g3, g4⟩ := World.cells?_some g1
    obtain ⟨b, g5, g6⟩ := he n cs' _ g2 fun k hk => hw k (by
     simp only [DataW.weights, ht, List.mem_cons, List.mem_append]
     exact .inr (.inl (weightsAll_mem (List.mem_map.2 ⟨i, List.mem_range.2 hi, rfl⟩) k hk)))
    refine ⟨b, ⟨cs', g3, fun j v hj => ?_, g5⟩, g6⟩
    rw [g4 j (by have := (List.getElem?_eq_some_iff.1 hj).1; omega)]
    exact hj
   obtain ⟨l, h1, h2⟩ := choose_list len hex
   refine ⟨l, ⟨⟨some a, len, cap⟩, rfl, ⟨h1.symm, hl, fun h => (by cases h), hm, fun j x hj => ?_⟩, ?_⟩, ?_⟩
   · obtain ⟨⟨cs', g1, g2, g3⟩, _⟩ := h2 j x hj
     exact ⟨a, cs', rfl, trivial, g1, g2, g3⟩
   · have := hw _ (by simp only [DataW.weights, ht]; exact List.mem_cons_self)
     rw [hb] at this
     simp only [List.length_map, List.length_range, reachBytes] at this
     rw [h1]
     have h3 : len * bytes <= (len + (mm - len)) * bytes := Nat.mul_le_mul_right _ (by omega)
     omega
   · have h3 := hB.sl ((List.range len).map D) ((List.range (mm - len)).map fun j => D (len + j))
     refine Nat.le_trans (Nat.succ_le_succ ?_) h3
     have h4 := sum_le (p := m) (g := fun i => B (D i)) (l := l) (o := 0) fun i b hb => by
      rw [Nat.zero_add]
      exact (h2 i b hb).2
     rw [h1] at h4
     rw [List.map_map]
     simpa [Function.comp_def] using h4
def FOpenB (B : DataW H -> Nat) (enc : TypeId × Value -> H) (P : Program) (W : World) (base : Nat) (spare : Nat -> Bool) (held : Bool) (T off : Nat) (fs : List Field) (r : Rp α) (m : α -> Nat) : Prop :=
 ∀ (n : Nat) (cs : List Value) (xs : List (DataW H × List MemPlace)), cs.length = T -> xs.length = fs.length ->
  (∀ (i : Nat) (f : Field), fs[i]? = some f -> DataW.trod enc P W base spare held n f.type ((cs.drop f.offset).take (P.cellsOf f.type)) = xs[i]?) ->
  (∀ (i : Nat) (f : Field) (x : DataW H × List MemPlace), fs[i]? = some f -> xs[i]? = some x -> ∀ k, k ∈ x.1.weights P f.type -> k <= reachBytes) -> ∃ a : α, r W (fun _ => True) a (cs.drop off) /\ m a <= (xs.map fun x => B x.1).sum
theorem foB_nil {T off : Nat} (h : T = off) : FOpenB B enc P W base spare held T off [] rUnit fun _ => 0 := fun n cs xs hl _ _ _ => ⟨(), by
 show cs.drop off = []
 exact List.drop_eq_nil_of_le (by omega), Nat.zero_le _⟩
theorem foB_cons {T off s : Nat} {f : Field} {fs : List Field} {r : Rp α} {q : Rp β} {m : α -> Nat} {m' : β -> Nat} (ho : f.offset = off) (hs : P.cellsOf f.type = s) (hr : OpensB B enc P W base spare held f.type r m) (hq : FOpenB B enc P W base spare held T (off + s) fs q m') :
  FOpenB B enc P W base spare held T off (f :: fs) (rPair r q) fun x => m x.1 + m' x.2 := fun n cs xs hl hx hf hw => by
 cases xs with
 | nil => simp at hx
 | cons x xs =>
  have h0 := hf 0 f rfl
  rw [ho, hs] at h0
  obtain ⟨a, ha, ha'⟩ := hr n _ x h0 (hw 0 f x rfl rfl)
  obtain ⟨b, hb, hb'⟩ := hq n cs xs hl (by simpa using hx) (fun i g hg => hf (i + 1) g hg) (fun i g y hg hy => hw (i + 1) g y hg hy)
  refine ⟨(a, b), ⟨_, _, by rw [<- List.drop_drop, List.take_append_drop], ha, hb⟩, ?_⟩
  rw [List.map_cons, List.sum_cons]
  exact Nat.add_le_add ha' hb'
theorem opensB_struct (hB : IsBulk B) {t : TypeId} {fs : Array Field} {T : Nat} {r : Rp α} {m : α -> Nat} (ht : P.underlying t = some (.struct fs)) (hT : P.cellsOf t = T) (hF : FOpenB B enc P W base spare held T 0 fs.toList r m) : OpensB B enc P W base spare held t r fun x => m x + 1 := fun fuel cs x h hw => by
 obtain ⟨xs, n, rfl, rfl, hl, hxl, hf⟩ := DataW.trod_struct ht h
 obtain ⟨a, ha, ha'⟩ := hF n cs xs (by omega) (by simpa using hxl) (fun i f hi => hf i f (by simpa using hi)) (fun i f x hi hx k hk => hw k (by
  simp only [DataW.weights, ht]
  refine DataW.weights_mem_each (j := i) ?_ (by rw [List.getElem?_map, hx]; rfl) k hk
  simp only [Array.toList_map, List.getElem?_map, hi]
  rfl))
 refine ⟨a, by simpa using ha, Nat.le_trans (Nat.succ_le_succ ha') ?_⟩
 have := hB.agg (xs.map (·.1))
 rwa [List.map_map] at this
theorem OpensB.map {t : TypeId} {r : Rp α} {q : Rp β} {m : α -> Nat} {m' : β -> Nat} (h : OpensB B enc P W base spare held t r m) (f : α -> β) (hf : ∀ a cs, r W (fun _ => True) a cs -> q W (fun _ => True) (f a) cs /\ m' (f a) <= m a) : OpensB B enc P W base spare held t q m' := fun fuel cs x hx hw => by
 obtain ⟨a, ha, ha'⟩ := h fuel cs x hx hw
 obtain ⟨h1, h2⟩ := hf a cs ha
 exact ⟨f a, h1, Nat.le_trans h2 ha'⟩
theorem argB_slice {t e : TypeId} {r : Rp α} {m : List α -> Nat} {size bytes : Nat} {b0 : Nat} {v : Value} {d : DataW H} {p : List MemPlace} (ht : P.underlying t = some (.slice e)) (hok : Value.okWide P W .any b0 t v) (h : DataW.Trod enc P W base spare held t v d p)
  (hop : OpensB B enc P W base spare held t (rSl r size bytes) m) (hw : ∀ n, n ∈ d.weights P t -> n <= reachBytes) : ∃ (s : Sl) (xs : List α), v = s.v /\ SliceF r size W (fun _ => True) s xs /\ m xs <= B d := by
 obtain ⟨a0, len0, cap0, rfl⟩ := okWide_slice ht hok
 obtain ⟨fuel, hf⟩ := h
 obtain ⟨xs, ⟨s, h1, h2, h3⟩, h4⟩ := hop fuel _ _ hf hw
 have h1 : [Value.slice a0 len0 cap0] = [s.v] := h1
 simp only [List.cons.injEq, and_true] at h1
 exact ⟨s, xs, h1, h2, h4⟩
theorem sum_one : ∀ l : List α, (l.map fun _ => 1).sum = l.length
 | [] => rfl
 | _ :: l => by rw [List.map_cons, List.sum_cons, sum_one l, List.length_cons]; omega
end
end Go.Kt
namespace Go.Proofs.Ytijipkdbkgafkaa.Con
open Go Go.RowKit Go.Kt Go.Kt.V Go.Proofs.Ytijipkdbkgafkaa.Vc
set_option linter.unusedSimpArgs false
set_option linter.unusedVariables false
set_option maxHeartbeats 1000000
set_option maxRecDepth 100000
theorem rSl_ok {α : Type} {r : Rp α} {size bytes : Nat} (hr : r.Ok) (h0 : 0 < size) : (rSl r size bytes).Ok where
 keep := by
  rintro w w' F x cs ⟨s, h1, h2, h3⟩ hk
  exact ⟨s, h1, h2.keep hr h0 hk, h3⟩
 inHeap := by
  rintro w F x cs ⟨s, h1, h2, h3⟩
  exact ⟨s, h1, h2.inHeap hr h0, h3⟩
 mono := by
  rintro w F G x cs ⟨s, h1, h2, h3⟩ hk
  exact ⟨s, h1, h2.mono hr hk, h3⟩
 one := by
  rintro w F x cs ⟨s, rfl, _⟩ v hv
  simp only [List.mem_singleton] at hv
  subst hv
  rfl
def rFq : Rp Fl := fun w F f cs => ∃ t : Sl, cs = [.string (T f.nm), t.v, .int .i64 (f.sf : Int)] /\ SliceF rByte 1 w F t f.bs
theorem rFq_ok : rFq.Ok where
 keep := fun ⟨t, h1, h2⟩ hk => ⟨t, h1, SliceF.keep rByte_ok h2 (by decide) hk⟩
 inHeap := fun ⟨t, h1, h2⟩ => ⟨t, h1, SliceF.inHeap rByte_ok h2 (by decide)⟩
 mono := fun ⟨t, h1, h2⟩ hk => ⟨t, h1, SliceF.mono rByte_ok h2 hk⟩
 one := fun ⟨t, h1, h2⟩ v hv => by
  subst h1
  simp only [List.mem_cons, List.not_mem_nil, or_false] at hv
  rcases hv with rfl | rfl | rfl <;> rfl
theorem fq_of {w : World} {F : Nat -> Prop} {f : Fl} {cs : List Value} (h : rFl w F f cs) : rFq w F f cs := by
 obtain ⟨t, h1, h2, h3⟩ := h
 exact ⟨t, h1, SliceF.mono rByte_ok (flatB h2) fun k hk => h3 k hk.2⟩
theorem slImp {α : Type} {r q : Rp α} {size : Nat} {w : World} {F : Nat -> Prop} {s : Sl} {xs : List α} (h : SliceF r size w F s xs) (hi : ∀ x cs, x ∈ xs -> r w F x cs -> q w F x cs) : SliceF q size w F s xs :=
 ⟨h.len, h.cap, h.nil0, h.big, fun j x hx => by
  obtain ⟨base, cs, h1, h2, h3, h4, h5⟩ := h.at_ j x hx
  exact ⟨base, cs, h1, h2, h3, h4, hi x cs (List.mem_of_getElem? hx) h5⟩⟩
theorem told {w : World} {B : Nat} {t : Sl} {L : List Fl} (h : Own rFl 3 38 B w (fun k => B <= k) t L) : SliceF rFq 3 w (fun k => B <= k) t L :=
 slImp (SliceF.mono rFl_ok (h.slice rFl_ok) fun k hk => hk.elim id fun h => h.1) fun _ _ _ h => fq_of h
section
variable {w u u' : World} {d : Nat} {D D' : Dk} {F G : Nat -> Prop}
theorem fq_at {t : Sl} {L : List Fl} (h : SliceF rFq 3 u F t L) {i : Nat} {f : Fl} (hf : L[i]? = some f) : ∃ (ad : Addr) (s : Sl), SlAt t (i : Int) 3 ad /\ Cells u (ad.add 0) [.string (T f.nm)] /\ Cells u (ad.add 1) [s.v] /\ Cells u (ad.add 2) [.int .i64 (f.sf : Int)] /\ SliceF rByte 1 u F s f.bs := by
 have hl := (List.getElem?_eq_some_iff.1 hf).1
 have hn := h.len
 obtain ⟨ad, x, cs, g1, g2, g3, g4, g5, s, rfl, g6⟩ := h.get (i := (i : Int)) (Int.natCast_nonneg i) (by omega)
 rw [Int.toNat_natCast, hf] at g2
 injection g2 with g2
 subst g2
 exact ⟨ad, s, g1, cells_nth g5 0 rfl, cells_nth g5 1 rfl, cells_nth g5 2 rfl, g6⟩
theorem same21_c {s t : Sl} {L : List Fl} (h : SliceF rFq 3 w F s L) (k : SliceF rFq 3 w G t L) : Calls Try.prog 19 #[s.v, t.v] w fun e w' => e = .returned (.bool true) /\ Only [] w w' := by
 refine ret (v23w s t (fun v w' => v = .bool true /\ Only [] w w') w ?_)
 unfold v23v
 have h1 := h.len
 have h2 := h.cap
 have h3 := h.big
 have k1 := k.len
 refine ⟨fun hc => ?_, fun _ => ?_⟩
 · rw [h1, k1] at hc
   simp at hc
 · refine ⟨fun nv i u => ∃ n : Nat, i = (n : Int) /\ nv + n = L.length /\ Only [] w u, L.length, ⟨0, rfl, rfl, Only.refl _ _⟩, ?_⟩
   rintro nv _ u ⟨n, rfl, hnv, hO⟩
   refine ⟨fun hlt => ?_, fun _ => ⟨rfl, hO⟩⟩
   have hlt : (n : Int) < (s.n : Int) := of_decide_eq_true hlt
   have hnl : n < L.length := by omega
   obtain ⟨p, a, a1, a2, a3, a4, a5⟩ := fq_at (SliceF.only rFq_ok (by decide) h hO (by simp)) (List.getElem?_eq_getElem hnl)
   obtain ⟨q, b, b1, b2, b3, b4, b5⟩ := fq_at (SliceF.only rFq_ok (by decide) k hO (by simp)) (List.getElem?_eq_getElem hnl)
   refine ⟨p, a1, _, a2, q, b1, _, b2, p, fun _ => a1, a, fun _ => a3, _, fun _ => (SliceF.bytes a5).rd, q, fun _ => b1, b, fun _ => b3, _, fun _ => (SliceF.bytes b5).rd, p, fun _ => a1, _, fun _ => a4, q, fun _ => b1, _, fun _ => b4, fun hc => ?_, fun _ w2 hO2 => ⟨nv - 1, by omega, n + 1, by rw [wr' (by omega) (by omega)]; rfl, by omega, hO.tr0 hO2⟩⟩
   simp at hc
abbrev rAct : Rp ActT := rPair rInt (rPair rStr (rPair rStr (rPair (rSl rByte 1 1) (rPair (rSl rByte 1 1) (rPair rInt (rPair rInt (rPair (rSl rInt 1 8) rUnit)))))))
theorem act_cells {x : ActT} {cs : List Value} (h : rAct w F x cs) : ∃ (sb sc sl : Sl), cs = [.int .i64 x.1, .string (T x.nm), .string (T x.to), sb.v, sc.v, .int .i64 x.n, .int .i64 x.m, sl.v] /\ SliceF rByte 1 w F sb x.b /\ SliceF rByte 1 w F sc x.c /\ SliceF rInt 1 w F sl x.l /\ InI x.n /\ InI x.1 := by
 obtain ⟨x0, x1, x2, x3, x4, x5, x6, x7, u⟩ := x
 obtain ⟨c0, r0, rfl, ⟨rfl, i0⟩, c1, r1, rfl, ⟨rfl, _⟩, c2, r2, rfl, ⟨rfl, _⟩, c3, r3, rfl, ⟨s3, rfl, h3, _⟩, c4, r4, rfl, ⟨s4, rfl, h4, _⟩, c5, r5, rfl, ⟨rfl, i5⟩, c6, r6, rfl, ⟨rfl, _⟩, c7, r7, rfl, ⟨s7, rfl, h7, _⟩, hu⟩ := h
 have hu : r7 = [] := hu
 subst hu
 refine ⟨s3, s4, s7, ?_, h3, h4, h7, i5, i0⟩
 have e1 : x1 = T x1.data.toList := T_of x1
 have e2 : x2 = T x2.data.toList := T_of x2
 show [_, Value.string x1, Value.string x2, _, _, _, _, _] = [_, Value.string (T x1.data.toList), Value.string (T x2.data.toList), _, _, _, _, _]
 rw [<- e1, <- e2]
 rfl
theorem rAct_ok : rAct.Ok := rPair_ok rInt_ok (rPair_ok rStr_ok (rPair_ok rStr_ok (rPair_ok (rSl_ok rByte_ok (by decide)) (rPair_ok (rSl_ok rByte_ok (by decide)) (rPair_ok rInt_ok (rPair_ok rInt_ok (rPair_ok (rSl_ok rInt_ok (by decide)) rUnit_ok)))))))
theorem sum_take {acts : List ActT} {n : Nat} {x : ActT} (h : acts[n]? = some x) : ((acts.take (n + 1)).map mA).sum = ((acts.take n).map mA).sum + mA x := by
 rw [List.take_add_one, h]
 simp
theorem sum_take_le (acts : List ActT) (n : Nat) : ((acts.take n).map mA).sum <= (acts.map mA).sum := by
 induction acts generalizing n with
 | nil => simp
 | cons a l ih =>
  cases n with
  | zero => simp
  | succ n =>
   rw [List.take_succ_cons, List.map_cons, List.map_cons, List.sum_cons, List.sum_cons]
   have := ih n
   omega
end
theorem sumF_take {l : List Fl} {n : Nat} {f : Fl} (h : l[n]? = some f) : sumF (l.take (n + 1)) = sumF (l.take n) + f.bs.length := by
 induction l generalizing n with
 | nil => simp at h
 | cons a l ih =>
  cases n with
  | zero =>
   simp only [List.getElem?_cons_zero, Option.some.injEq] at h
   subst h
   simp [sumF]
  | succ n =>
   rw [List.take_succ_cons, List.take_succ_cons, sumF, sumF, ih (by simpa using h)]
   omega
theorem sumF_take_le (l : List Fl) (n : Nat) : sumF (l.take n) <= sumF l := sumF_sub (List.take_sublist n l)
section
variable {w u u' : World} {d : Nat} {D D' : Dk} {F G : Nat -> Prop}
theorem rooms_c {w : World} {room : Int} (hi : InI room) {sa : Sl} {acts : List ActT} (h : SliceF rAct 8 w (fun _ => True) sa acts) (hb : (acts.map mA).sum <= 1048576) : Calls Try.prog 4 #[.int .i64 room, sa.v] w fun e w' => e = .returned (.bool true) /\ Only [] w w' := by
 refine ret (v21w room sa (fun v w' => v = .bool true /\ Only [] w w') w ?_)
 unfold v21v
 have hln := h.len
 have hcp := h.cap
 have hbg := h.big
 have h := SliceF.inHeap rAct_ok h (by decide)
 refine (dsmall_c w).mono ?_
 rintro _ w0 ⟨rfl, hO0⟩
 refine ⟨true, rfl, (new_c w0 hi).mono ?_⟩
 rintro _ w1 ⟨d, rfl, hd, hO1⟩
 have q1 : Dq w w1 d (newD room) _ := ⟨hd, fun k hk => by have := hO0.size; omega, hO0.tr0 hO1⟩
 have er : (if 0 > room then 0 else room) = ((room.toNat : Nat) : Int) := by split <;> omega
 rw [er]
 refine ⟨_, rfl, fun h => (by simp at h), fun _ => ⟨fun nv i u => ∃ (n : Nat) (D : Dk) (F : Nat -> Prop), i = (n : Int) /\ nv + n = acts.length /\ n <= 200 /\ Dq w u d D F /\ (∀ k, F k -> k < u.heap.size) /\ D.room = room.toNat /\ sumF D.fs <= ((acts.take n).map mA).sum /\ D.fs.length <= n, acts.length, ⟨0, _, _, rfl, rfl, by omega, q1, fun k hk => hk.2, rfl, Nat.zero_le _, Nat.le_refl _⟩, ?_⟩⟩
 rintro nv _ w2 ⟨n, D, F, rfl, hnv, hn200, q2, hFh, hroom, hsum, hlen⟩
 refine ⟨fun hc => ?_, fun _ => ⟨rfl, q2.only⟩⟩
 simp only [Bool.and_eq_true, decide_eq_true_eq] at hc
 obtain ⟨hc1, hc2⟩ := hc
 have hnl : n < acts.length := by omega
 obtain ⟨p0, x, cs, a1, a2, a3, a4, a5, a6⟩ := (SliceF.only rAct_ok (by decide) h q2.only (by simp)).get (Int.natCast_nonneg n) hc1
 rw [Int.toNat_natCast] at a2
 obtain ⟨sb, sc, sl, rfl, hsb, hsc, hsl, hIn, _⟩ := act_cells a6
 have hst := sum_take a2
 have hsl' := sum_take_le acts (n + 1)
 have hsD : sumF D.fs <= 1048576 := by have := sum_take_le acts n; omega
 have hinv := q2.inv
 have hle := step_le hinv x
 have hmx : x.b.length + x.c.length = mA x := rfl
 refine ⟨p0, a1, _, _, _, _, _, _, _, _, a5, fun k2 w3 hk2 hk2' hO3 => ?_⟩
 have z3 := hO3.size
 have q3 := q2.skip hO3
 refine (q3.files (by omega) (by omega)).mono ?_
 rintro _ w4 ⟨⟨l3, rfl, hl3⟩, q4, hO4⟩
 have z4 := hO4.size
 have hl3' := SliceF.inHeap rFq_ok (told hl3) (by decide)
 obtain ⟨E, hE⟩ : ∃ E, E = (stepR D x).2 := ⟨_, rfl⟩
 obtain ⟨c, hc⟩ : ∃ c, c = (stepR D x).1 := ⟨_, rfl⟩
 have hsame : c ≠ 0 -> c ≠ 50 -> E = D := fun h0 h5 => by rw [hE]; rw [hc] at h0 h5; exact step_same h0 h5
 rw [<- hE] at hle
 have o34 : Only [] w2 w4 := hO3.tr0 hO4
 have clo : ∀ {u u' : World}, Only [] w4 u -> Aft d E F u u' -> Same [k2] u u' /\ ∃ F', Dq w u' d E F' /\ ¬ F' k2 /\ k2 < u'.heap.size /\ w4.heap.size <= u'.heap.size /\ (∀ k, F' k -> k < u'.heap.size) /\ SliceF rFq 3 u' (fun k => w3.heap.size <= k /\ k < w4.heap.size) l3 D.fs := fun {u u'} hO ha => by
  have z1 := hO.size
  have z2 := ha.2.size
  refine ⟨ha.2.same (fun y hy => by simp at hy; subst hy; exact ⟨by omega, fun hf => by have := hFh _ hf; omega⟩), _, (q4.skip hO).aft ha, fun hf => ?_, by omega, by omega, fun k hk => hk.elim (fun hf => by have := hFh _ hf; omega) fun h => h.2, ?_⟩
  · rcases hf with hf | hf
    · have := hFh _ hf; omega
    · omega
  · exact SliceF.onlyP rFq_ok (by decide) (SliceF.only rFq_ok (by decide) hl3' hO (by simp)) ha.2 fun k hk _ hf => by have := hFh _ hf; omega
 refine ⟨l3, rfl, hO4.same (by simp; omega), fun e u => e = c /\ ∃ F', Dq w u d E F' /\ ¬ F' k2 /\ k2 < u.heap.size /\ w4.heap.size <= u.heap.size /\ (∀ k, F' k -> k < u.heap.size) /\ SliceF rFq 3 u (fun k => w3.heap.size <= k /\ k < w4.heap.size) l3 D.fs, ?_, fun hx => ?_, fun hx0 => ⟨fun hx => ?_, fun hx1 => ⟨fun hx => ?_, fun hx2 => ⟨fun hx => ?_, fun hx3 => ⟨fun hx => ?_, fun hx4 => ⟨fun hx => ?_, fun hx6 => ⟨fun hx => ?_, fun hx7 => ?_⟩⟩⟩⟩⟩⟩⟩
 · rintro _ w5 ⟨rfl, F5, q5, nk5, lk5, z5, hF5, r5⟩
   have i5 := q5.inv
   have hsE : sumF E.fs <= 2097152 := by have := hle.sum; omega
   have hlE : E.fs.length <= 201 := by have := hle.len; omega
   refine (q5.files (by omega) (by omega)).mono ?_
   rintro _ w6 ⟨⟨l4, rfl, hl4⟩, q6, hO6⟩
   have z6 := hO6.size
   have r6 := SliceF.only rFq_ok (by decide) r5 hO6 (by simp)
   have t4 := told hl4
   have n4 := t4.len
   have hrE : E.room = room.toNat := by rw [hle.room, hroom]
   have hbgr := i5.big
   refine ⟨l4, rfl, hO6.same (by simp; omega), fun nv s i u => ∃ m : Nat, i = (m : Int) /\ nv + m = E.fs.length /\ s = ((sumF (E.fs.take m) : Nat) : Int) /\ Only [] w6 u, E.fs.length, ⟨0, rfl, rfl, by simp [sumF], Only.refl _ _⟩, ?_⟩
   rintro nv' _ _ w7 ⟨m, rfl, hnv', rfl, hO7⟩
   have z7 := hO7.size
   have t7 := SliceF.only rFq_ok (by decide) t4 hO7 (by simp)
   refine ⟨fun hlt => ?_, fun hge => ?_⟩
   · have hlt : (m : Int) < (l4.n : Int) := of_decide_eq_true hlt
     have hml : m < E.fs.length := by omega
     obtain ⟨ad, s, b1, b2, b3, b4, b5⟩ := fq_at t7 (List.getElem?_eq_getElem hml)
     have hsl := b5.len
     have hsf := i5.safe _ (List.getElem_mem hml)
     have htk := sumF_take (List.getElem?_eq_getElem hml)
     have htl := sumF_take_le E.fs (m + 1)
     refine ⟨ad, b1, s, b3, ad, b1, _, b4, ad, fun _ => b1, _, fun _ => b4, ad, fun _ => b1, s, fun _ => b3, fun hh => ?_, fun hh w9 hO9 => ⟨nv' - 1, by omega, m + 1, by rw [wr' (by omega) (by omega)]; rfl, by omega, by rw [wr' (by omega) (by omega)]; omega, hO7.tr0 hO9⟩⟩
     simp only [Bool.or_eq_true, decide_eq_true_eq] at hh
     omega
   · have hge : ¬ (m : Int) < (l4.n : Int) := of_decide_eq_false hge
     have hm : m = E.fs.length := by omega
     subst hm
     rw [List.take_length]
     have hsr := i5.sum
     refine ⟨fun b u => b = false /\ Only [] w6 u, ?_, fun hh => ?_, fun _ => (((q6.skip hO7).free).mono ?_)⟩
     · rintro _ w10 ⟨rfl, hO10⟩
       have z10 := hO10.size
       refine ⟨fun h => (by cases h), fun _ => ⟨fun b u => b = false /\ Only [] w6 u, ?_, fun hh => ?_, fun _ => ⟨rfl, hO10⟩⟩⟩
       · rintro _ w11 ⟨rfl, hO11⟩
         have z11 := hO11.size
         refine ⟨fun h => (by cases h), fun _ => ⟨nv - 1, by omega, n + 1, E, F5, by rw [wr' (by omega) (by omega)]; rfl, by omega, by omega, q6.skip hO11, fun k hk => by have := hF5 k hk; omega, hrE, by have := hle.sum; omega, by have := hle.len; omega⟩⟩
       · simp only [Bool.and_eq_true, bne_iff_ne, ne_eq] at hh
         have hED := hsame hh.1 hh.2
         rw [hED] at t4
         refine (same21_c (SliceF.only rFq_ok (by decide) r6 hO10 (by simp)) (SliceF.only rFq_ok (by decide) t4 hO10 (by simp))).mono ?_
         rintro _ w12 ⟨rfl, hO12⟩
         exact ⟨_, rfl, hO12.same (by simp; omega), rfl, hO10.tr0 hO12⟩
     · have hh : ((sumF E.fs : Nat) : Int) > ((room.toNat : Nat) : Int) := of_decide_eq_true hh
       omega
     · rintro _ w13 ⟨rfl, _, hO13⟩
       refine ⟨_, rfl, hO13.same (by simp; omega), ?_, hO7.tr0 hO13⟩
       rw [wr' (by omega) (by omega), hrE]
       simp
 all_goals first | (have hx0 : x.1 ≠ 0 := by simpa using hx0) | skip
 all_goals first | (have hx1 : x.1 ≠ 1 := by simpa using hx1) | skip
 all_goals first | (have hx2 : x.1 ≠ 2 := by simpa using hx2) | skip
 all_goals first | (have hx3 : x.1 ≠ 3 := by simpa using hx3) | skip
 all_goals first | (have hx4 : x.1 ≠ 4 := by simpa using hx4) | skip
 all_goals first | (have hx6 : x.1 ≠ 6 := by simpa using hx6) | skip
 all_goals first | (have hx7 : x.1 ≠ 7 := by simpa using hx7) | skip
 · have hx : x.1 = 0 := by simpa using hx
   have e : stepR D x = appD D x.nm [x.b, x.c] := by unfold stepR; rw [if_pos hx]
   rw [e] at hE hc
   obtain ⟨l7, w14, c1, c2, c3, c4⟩ := litR w4 [(sb, x.b), (sc, x.c)] (n := 2) (parts := #[.mk 0 sb.v, .mk 1 sc.v]) rfl rfl (by decide) (by decide) (fun q hq => by
    rcases List.mem_cons.1 hq with rfl | hq
    · exact ⟨_, SliceF.only rByte_ok (by decide) hsb o34 (by simp)⟩
    · rw [List.mem_singleton.1 hq]; exact ⟨_, SliceF.only rByte_ok (by decide) hsc o34 (by simp)⟩)
   obtain ⟨r, tb, hk⟩ := (q4.skip c3).dsk
   refine ⟨l7, w14, c1, c3.same (by simp; omega), (append_c hk (G := fun _ => True) (ls := [x.b, x.c]) (SliceF.mono rBs_ok (c2.slice rBs_ok) fun _ _ => trivial) (.inr ⟨_, c4⟩) (by simp; omega) (by show 2 <= 140737488355328; omega) x.nm).mono ?_⟩
   rintro _ w15 ⟨rfl, ha⟩
   rw [<- hE] at ha
   obtain ⟨y1, y2⟩ := clo c3 ha
   exact ⟨_, rfl, y1, hc.symm, y2⟩
 · have hx : x.1 = 1 := by simpa using hx
   have e : stepR D x = syncD D x.nm := by unfold stepR; rw [if_neg hx0, if_pos hx]
   rw [e] at hE hc
   obtain ⟨r, tb, hk⟩ := q4.dsk
   refine (sync_c hk x.nm).mono ?_
   rintro _ w15 ⟨rfl, ha⟩
   rw [<- hE] at ha
   obtain ⟨y1, y2⟩ := clo (Only.refl _ _) ha
   exact ⟨_, rfl, y1, hc.symm, y2⟩
 · have hx : x.1 = 2 := by simpa using hx
   have e : stepR D x = cutD D x.nm x.n := by unfold stepR; rw [if_neg hx0, if_neg hx1, if_pos hx]
   rw [e] at hE hc
   obtain ⟨r, tb, hk⟩ := q4.dsk
   refine (cut_c hk x.nm hIn).mono ?_
   rintro _ w15 ⟨rfl, ha⟩
   rw [<- hE] at ha
   obtain ⟨y1, y2⟩ := clo (Only.refl _ _) ha
   exact ⟨_, rfl, y1, hc.symm, y2⟩
 · have hx : x.1 = 3 := by simpa using hx
   have e : stepR D x = renD D x.nm x.to := by unfold stepR; rw [if_neg hx0, if_neg hx1, if_neg hx2, if_pos hx]
   rw [e] at hE hc
   obtain ⟨r, tb, hk⟩ := q4.dsk
   refine (rename_c hk x.nm x.to).mono ?_
   rintro _ w15 ⟨rfl, ha⟩
   rw [<- hE] at ha
   obtain ⟨y1, y2⟩ := clo (Only.refl _ _) ha
   exact ⟨_, rfl, y1, hc.symm, y2⟩
 · have hx : x.1 = 4 := by simpa using hx
   have e : stepR D x = remD D x.nm := by unfold stepR; rw [if_neg hx0, if_neg hx1, if_neg hx2, if_neg hx3, if_pos hx]
   rw [e] at hE hc
   obtain ⟨r, tb, hk⟩ := q4.dsk
   refine (remove_c hk x.nm).mono ?_
   rintro _ w15 ⟨rfl, ha⟩
   rw [<- hE] at ha
   obtain ⟨y1, y2⟩ := clo (Only.refl _ _) ha
   exact ⟨_, rfl, y1, hc.symm, y2⟩
 · have hx : x.1 = 6 := by simpa using hx
   have e : stepR D x = (0, armD D x.n x.m) := by unfold stepR; rw [if_neg hx0, if_neg hx1, if_neg hx2, if_neg hx3, if_neg hx4, if_pos hx]
   rw [e] at hE hc
   refine ⟨_, rfl, fun w20 hO20 => ?_⟩
   obtain ⟨r, tb, hk⟩ := (q4.skip hO20).dsk
   refine (arm_c hk (q := x.m) hIn).mono ?_
   rintro _ w15 ⟨rfl, ha, hOa⟩
   have ha : Aft d E F w20 w15 := ⟨by rw [hE]; exact Dsk.gr0 ha, hOa.p fun b hb => .inl (by simp at hb; rw [hb]; exact hk.dr.2.1)⟩
   obtain ⟨y1, y2⟩ := clo hO20 ha
   exact ⟨rfl, y1, hc.symm, y2⟩
 · have hx : x.1 = 7 := by simpa using hx
   have e : stepR D x = (0, bootD D x.l) := by unfold stepR; rw [if_neg hx0, if_neg hx1, if_neg hx2, if_neg hx3, if_neg hx4, if_neg hx6, if_pos hx]
   rw [e] at hE hc
   obtain ⟨r, tb, hk⟩ := q4.dsk
   refine (boot_c hk (by omega) (by omega) (SliceF.only rInt_ok (by decide) hsl o34 (by simp)) fun k hk _ hf => ?_).mono ?_
   · have := q2.new k hf
     have := hk.2
     omega
   · rintro _ w15 ⟨rfl, ha⟩
     have hE : E = bootD D x.l := hE
     rw [<- hE] at ha
     obtain ⟨y1, y2⟩ := clo (Only.refl _ _) ha
     exact ⟨rfl, y1, hc.symm, y2⟩
 · have e : stepR D x = (0, D) := by unfold stepR; rw [if_neg hx0, if_neg hx1, if_neg hx2, if_neg hx3, if_neg hx4, if_neg hx6, if_neg hx7]
   rw [e] at hE hc
   obtain ⟨r, tb, hk⟩ := q4.dsk
   have hE : E = D := hE
   have ha : Aft d E F w4 w4 := by rw [hE]; exact Aft.same hk (Only.refl _ _)
   exact ⟨hc.symm, (clo (Only.refl _ _) ha).2⟩
end
end Go.Proofs.Ytijipkdbkgafkaa.Con
