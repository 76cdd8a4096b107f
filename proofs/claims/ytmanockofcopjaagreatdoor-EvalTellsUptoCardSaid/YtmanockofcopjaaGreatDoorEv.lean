/-
  Own work: what an expression comes to: the model; the evaluator's functions.
-/
import Derived.Test.YtmanockofcopjaaGreatDoorTree0
namespace Go.Proofs.YtmanockofcopjaaGreatDoor.Con
open Go Go.RowKit Go.Kt Go.Kt.V Go.Proofs.YtmanockofcopjaaGreatDoor.Vc
set_option linter.unusedSimpArgs false
set_option linter.unusedVariables false
set_option maxHeartbeats 4000000

/-! ## reckoning -/
def trA (b : Bool) : Int := if b then 1 else 0
def divA (op a b : Int) : Int × Int :=
  if b = 0 then (0, 10) else if op = 4 ∧ b = -1 then (IntKind.wrap .i64 (0 - a), 0) else if op = 4 then (IntKind.wrap .i64 (a.tdiv b), 0) else if b = -1 then (0, 0) else (a.tmod b, 0)
def doA (op a b : Int) : Int × Int :=
  if op = 1 then (IntKind.wrap .i64 (a + b), 0) else if op = 2 then (IntKind.wrap .i64 (a - b), 0) else if op = 3 then (IntKind.wrap .i64 (a * b), 0)
  else if op = 4 ∨ op = 5 then divA op a b else if op = 8 then (trA (decide (b < a)), 0) else if op = 6 then (trA (decide (a < b)), 0)
  else if op = 7 then (IntKind.wrap .i64 (1 - trA (decide (b < a))), 0) else if op = 9 then (IntKind.wrap .i64 (1 - trA (decide (a < b))), 0)
  else if op = 10 then (trA (a == b), 0) else if op = 11 then (IntKind.wrap .i64 (1 - trA (a == b)), 0)
  else if op = 12 then (bits .and .i64 (trA (a != 0)) (trA (b != 0)), 0) else if op = 13 then (trA (bits .or .i64 a b != 0), 0) else (0, 11)
def oneA (op a : Int) : Int × Int := if op = 14 then (IntKind.wrap .i64 (0 - a), 0) else if op = 15 then (trA (a == 0), 0) else (0, 11)
theorem truth_c (w : World) (b : Bool) : Calls Tryz.prog 95 #[.bool b] w fun e w' => e = .returned (.int .i64 (trA b)) ∧ w' = w := by
  refine ret (calc_truth_wp b (fun v w' => v = .int .i64 (trA b) ∧ w' = w) w ?_)
  unfold calc_truth_vc
  exact ⟨fun h => by rw [h]; exact ⟨rfl, rfl⟩, fun h => by rw [h]; exact ⟨rfl, rfl⟩⟩
theorem turned_c (w : World) (n : Int) : Calls Tryz.prog 97 #[.int .i64 n] w fun e w' => e = .returned (.int .i64 (IntKind.wrap .i64 (1 - n))) ∧ w' = w := by
  refine ret (calc_turned_wp n (fun v w' => v = .int .i64 (IntKind.wrap .i64 (1 - n)) ∧ w' = w) w ?_)
  unfold calc_turned_vc
  exact ⟨rfl, rfl⟩
theorem divide_c (w : World) (op a b : Int) : Calls Tryz.prog 96 #[.int .i64 op, .int .i64 a, .int .i64 b] w fun e w' => e = .returned (.tuple #[.int .i64 (divA op a b).1, .int .i64 (divA op a b).2]) ∧ w' = w := by
  refine ret (calc_divide_wp op a b (fun v w' => v = .tuple #[.int .i64 (divA op a b).1, .int .i64 (divA op a b).2] ∧ w' = w) w ?_)
  unfold calc_divide_vc
  refine ⟨fun h => ?_, fun h => ⟨fun h1 => ?_, fun h1 => ⟨fun h2 => ?_, fun h2 => ⟨fun h3 => ?_, fun h3 => ?_⟩⟩⟩⟩
  · have h : b = 0 := by simpa using h
    rw [divA, if_pos h]; exact ⟨rfl, rfl⟩
  · have h : b ≠ 0 := by simpa using h
    have h1 : op = 4 ∧ b = -1 := by simpa using h1
    rw [divA, if_neg h, if_pos h1]; exact ⟨rfl, rfl⟩
  · have h : b ≠ 0 := by simpa using h
    have h2 : op = 4 := by simpa using h2
    have h1 : ¬ (op = 4 ∧ b = -1) := fun hh => by rw [hh.1, hh.2] at h1; simp at h1
    rw [divA, if_neg h, if_neg h1, if_pos h2]; exact ⟨h, rfl, rfl⟩
  · have h : b ≠ 0 := by simpa using h
    have h2 : op ≠ 4 := by simpa using h2
    have h3 : b = -1 := by simpa using h3
    rw [divA, if_neg h, if_neg (fun hh => h2 hh.1), if_neg h2, if_pos h3]; exact ⟨rfl, rfl⟩
  · have h : b ≠ 0 := by simpa using h
    have h2 : op ≠ 4 := by simpa using h2
    have h3 : b ≠ -1 := by simpa using h3
    rw [divA, if_neg h, if_neg (fun hh => h2 hh.1), if_neg h2, if_neg h3]; exact ⟨h, rfl, rfl⟩
theorem do_c (w : World) (op a b : Int) : Calls Tryz.prog 52 #[.int .i64 op, .int .i64 a, .int .i64 b] w fun e w' => e = .returned (.tuple #[.int .i64 (doA op a b).1, .int .i64 (doA op a b).2]) ∧ w' = w := by
  refine ret (calc_Do_wp op a b (fun v w' => v = .tuple #[.int .i64 (doA op a b).1, .int .i64 (doA op a b).2] ∧ w' = w) w ?_)
  unfold calc_Do_vc
  have eq : ∀ {k : Int}, (op == k) = true → op = k := fun h => by simpa using h
  have ne : ∀ {k : Int}, (op == k) = false → op ≠ k := fun h => by simpa using h
  refine ⟨fun n w' => doA op a b = (n, 0) ∧ w' = w, ?_, fun p q w' => doA op a b = (IntKind.wrap .i64 (1 - trA (decide (p < q))), 0) ∧ w' = w, ?_, fun p q w' => doA op a b = (trA (decide (p < q)), 0) ∧ w' = w, ?_, fun h => ?_, fun h1 => ⟨fun h => ?_, fun h2 => ⟨fun h => ?_, fun h3 => ⟨fun c w' => c = decide (op = 4 ∨ op = 5) ∧ w' = w, ?_, fun h => ?_, fun h => ?_⟩⟩⟩⟩
  · rintro n _ ⟨h, rfl⟩
    rw [h]; exact ⟨rfl, rfl⟩
  · rintro p q _ ⟨h, rfl⟩
    refine (truth_c _ _).mono ?_
    rintro _ _ ⟨rfl, rfl⟩
    refine ⟨_, rfl, (turned_c _ _).mono ?_⟩
    rintro _ _ ⟨rfl, rfl⟩
    exact ⟨_, rfl, h, rfl⟩
  · rintro p q _ ⟨h, rfl⟩
    refine (truth_c _ _).mono ?_
    rintro _ _ ⟨rfl, rfl⟩
    exact ⟨_, rfl, h, rfl⟩
  · rw [doA, if_pos (eq h)]; exact ⟨rfl, rfl⟩
  · rw [doA, if_neg (ne h1), if_pos (eq h)]; exact ⟨rfl, rfl⟩
  · rw [doA, if_neg (ne h1), if_neg (ne h2), if_pos (eq h)]; exact ⟨rfl, rfl⟩
  · rintro _ _ ⟨rfl, rfl⟩
    have e3 : doA op a b = if op = 4 ∨ op = 5 then divA op a b else if op = 8 then (trA (decide (b < a)), 0) else if op = 6 then (trA (decide (a < b)), 0)
      else if op = 7 then (IntKind.wrap .i64 (1 - trA (decide (b < a))), 0) else if op = 9 then (IntKind.wrap .i64 (1 - trA (decide (a < b))), 0)
      else if op = 10 then (trA (a == b), 0) else if op = 11 then (IntKind.wrap .i64 (1 - trA (a == b)), 0)
      else if op = 12 then (bits .and .i64 (trA (a != 0)) (trA (b != 0)), 0) else if op = 13 then (trA (bits .or .i64 a b != 0), 0) else (0, 11) := by
      rw [doA, if_neg (ne h1), if_neg (ne h2), if_neg (ne h3)]
    rw [e3]
    refine ⟨fun hb => ?_, fun hb => ?_⟩
    · rw [if_pos (of_decide_eq_true hb)]
      refine (divide_c _ op a b).mono ?_
      rintro _ _ ⟨rfl, rfl⟩
      exact ⟨_, _, rfl, rfl, rfl⟩
    rw [if_neg (of_decide_eq_false hb)]
    refine ⟨fun h => ?_, fun h8 => ⟨fun h => ?_, fun h6 => ⟨fun h => ?_, fun h7 => ⟨fun h => ?_, fun h9 => ⟨fun h => (truth_c _ _).mono ?_, fun h10 => ⟨fun h => (truth_c _ _).mono ?_, fun h11 => ⟨fun h => (truth_c _ _).mono ?_, fun h12 => ⟨fun h => (truth_c _ _).mono ?_, fun h13 => ?_⟩⟩⟩⟩⟩⟩⟩⟩
    · rw [if_pos (eq h)]; exact ⟨rfl, rfl⟩
    · rw [if_neg (ne h8), if_pos (eq h)]; exact ⟨rfl, rfl⟩
    · rw [if_neg (ne h8), if_neg (ne h6), if_pos (eq h)]; exact ⟨rfl, rfl⟩
    · rw [if_neg (ne h8), if_neg (ne h6), if_neg (ne h7), if_pos (eq h)]; exact ⟨rfl, rfl⟩
    · rintro _ _ ⟨rfl, rfl⟩
      rw [if_neg (ne h8), if_neg (ne h6), if_neg (ne h7), if_neg (ne h9), if_pos (eq h)]
      exact ⟨_, rfl, rfl, rfl⟩
    · rintro _ _ ⟨rfl, rfl⟩
      refine ⟨_, rfl, (turned_c _ _).mono ?_⟩
      rintro _ _ ⟨rfl, rfl⟩
      rw [if_neg (ne h8), if_neg (ne h6), if_neg (ne h7), if_neg (ne h9), if_neg (ne h10), if_pos (eq h)]
      exact ⟨_, rfl, rfl, rfl⟩
    · rintro _ _ ⟨rfl, rfl⟩
      refine ⟨_, rfl, (truth_c _ _).mono ?_⟩
      rintro _ _ ⟨rfl, rfl⟩
      rw [if_neg (ne h8), if_neg (ne h6), if_neg (ne h7), if_neg (ne h9), if_neg (ne h10), if_neg (ne h11), if_pos (eq h)]
      exact ⟨_, rfl, rfl, rfl⟩
    · rintro _ _ ⟨rfl, rfl⟩
      rw [if_neg (ne h8), if_neg (ne h6), if_neg (ne h7), if_neg (ne h9), if_neg (ne h10), if_neg (ne h11), if_neg (ne h12), if_pos (eq h)]
      exact ⟨_, rfl, rfl, rfl⟩
    · rw [if_neg (ne h8), if_neg (ne h6), if_neg (ne h7), if_neg (ne h9), if_neg (ne h10), if_neg (ne h11), if_neg (ne h12), if_neg (ne h13)]
      exact ⟨rfl, rfl⟩
  · have := eq h
    subst this
    exact ⟨by decide, rfl⟩
  · refine ⟨?_, rfl⟩
    rw [Bool.eq_iff_iff]
    simp only [beq_iff_eq, decide_eq_true_eq]
    have := ne h
    omega
theorem one1_c (w : World) (op a : Int) : Calls Tryz.prog 51 #[.int .i64 op, .int .i64 a] w fun e w' => e = .returned (.tuple #[.int .i64 (oneA op a).1, .int .i64 (oneA op a).2]) ∧ w' = w := by
  refine ret (calc_One_wp op a (fun v w' => v = .tuple #[.int .i64 (oneA op a).1, .int .i64 (oneA op a).2] ∧ w' = w) w ?_)
  unfold calc_One_vc
  refine ⟨fun h => ?_, fun h1 => ⟨fun h => (truth_c _ _).mono ?_, fun h2 => ?_⟩⟩
  · have h : op = 14 := by simpa using h
    rw [oneA, if_pos h]; exact ⟨rfl, rfl⟩
  · have h1 : op ≠ 14 := by simpa using h1
    have h : op = 15 := by simpa using h
    rintro _ _ ⟨rfl, rfl⟩
    rw [oneA, if_neg h1, if_pos h]
    exact ⟨_, rfl, rfl, rfl⟩
  · have h1 : op ≠ 14 := by simpa using h1
    have h2 : op ≠ 15 := by simpa using h2
    rw [oneA, if_neg h1, if_neg h2]
    exact ⟨rfl, rfl⟩

/-! ## what it comes to -/
structure Env5 where
  N : List (List UInt8)
  V : List Int
  A : List (List UInt8)
def ixA (c : List UInt8) : List (List UInt8) → Nat
  | [] => 0
  | x :: l => if x = c then 0 else ixA c l + 1
theorem ixA_le (c : List UInt8) : ∀ l, ixA c l ≤ l.length
  | [] => Nat.le_refl _
  | x :: l => by
    rw [ixA, List.length_cons]
    have := ixA_le c l
    split <;> omega
def namedA (e : Env5) (s : List UInt8) : Int × Int := if ixA s e.N < e.N.length ∧ ixA s e.N < e.V.length then ((e.V[ixA s e.N]?).getD 0, 0) else (0, 23)
def tookA (p : Int × Int) : Int × Int := if p.2 ≠ 0 then (0, p.2) else p
def partsA (k : Int) : Int := if 0 > IntKind.wrap .i64 (k - 3) then 0 else IntKind.wrap .i64 (k - 3)
def evM (e : Env5) : Nat → Ex → Int × Int
  | 0, _ => (0, 22)
  | d + 1, x => if x.k < 1 ∨ 5 < x.k ∨ (x.subs.length : Int) ≠ partsA x.k then (0, 22)
    else if x.k = 1 then (x.n, 0) else if x.k = 2 then namedA e x.s else if x.k = 3 then (trA (e.A.contains x.s), 0)
    else match x.subs with
      | [] => (0, 22)
      | y :: r => if (evM e d y).2 ≠ 0 then (0, (evM e d y).2) else if x.k = 4 then tookA (oneA x.op (evM e d y).1)
        else if x.op = 12 ∧ (evM e d y).1 = 0 then (0, 0) else if x.op = 13 ∧ (evM e d y).1 ≠ 0 then (1, 0)
        else match r with
          | [] => (0, 22)
          | z :: _ => if (evM e d z).2 ≠ 0 then (0, (evM e d z).2) else tookA (doA x.op (evM e d y).1 (evM e d z).1)
/-- the worker's block -/
structure Wk (F : Nat → Prop) (e : Env5) (w : World) (b : Nat) (sN sV sA : Sl) (err : Int) : Prop where
  blk : Blk w b 68 [sN.v, sV.v, sA.v, .int .i64 err]
  n : SliceF rTx 1 w F sN e.N
  v : SliceF rInt 1 w F sV e.V
  a : SliceF rTx 1 w F sA e.A
  hF : ∀ k, F k → k < b
section
variable {F : Nat → Prop} {e : Env5} {w w' : World} {b : Nat} {sN sV sA : Sl} {err : Int}
theorem Wk.only (h : Wk F e w b sN sV sA err) (hO : Only [] w w') : Wk F e w' b sN sV sA err :=
  ⟨hO.blk h.blk (by simp), SliceF.only rTx_ok (by decide) h.n hO (by simp), SliceF.only rInt_ok (by decide) h.v hO (by simp), SliceF.only rTx_ok (by decide) h.a hO (by simp), h.hF⟩
theorem Wk.turn (h : Wk F e w b sN sV sA err) (hO : Only [b] w w') {err' : Int} (hB : Blk w' b 68 [sN.v, sV.v, sA.v, .int .i64 err']) : Wk F e w' b sN sV sA err' :=
  ⟨hB, SliceF.only rTx_ok (by decide) h.n hO (fun k hk _ hm => by have := h.hF k hk; simp only [List.mem_singleton] at hm; omega), SliceF.only rInt_ok (by decide) h.v hO (fun k hk _ hm => by have := h.hF k hk; simp only [List.mem_singleton] at hm; omega), SliceF.only rTx_ok (by decide) h.a hO (fun k hk _ hm => by have := h.hF k hk; simp only [List.mem_singleton] at hm; omega), h.hF⟩
theorem Wk.lb (h : Wk F e w b sN sV sA err) : b < w.heap.size := h.blk.lt
theorem fail_c (h : Wk F e w b sN sV sA err) (c : Int) : Calls Tryz.prog 47 #[.pointer (some ⟨b, 0, none⟩), .int .i64 c] w fun r w' => r = .returned (.int .i64 0) ∧ Only [b] w w' ∧ Wk F e w' b sN sV sA (if err = 0 then c else err) := by
  refine ret (eval_worker_fail_wp ⟨b, 0, none⟩ c (fun v w' => v = .int .i64 0 ∧ Only [b] w w' ∧ Wk F e w' b sN sV sA (if err = 0 then c else err)) w ?_)
  unfold eval_worker_fail_vc
  refine ⟨fun w' => Only [b] w w' ∧ Wk F e w' b sN sV sA (if err = 0 then c else err), fun w' h => ⟨rfl, h⟩, err, Blk.at1 h.blk 3 rfl, fun hc => ⟨b, 3, _, _, rfl, h.blk, by simp, fun w1 hO1 hB1 => ⟨hO1, ?_⟩⟩, fun hc => ⟨Only.refl _ _, ?_⟩⟩
  · rw [if_pos (by simpa using hc)]
    exact h.turn hO1 hB1
  · rw [if_neg (by simpa using hc)]
    exact h
theorem took_c (h : Wk F e w b sN sV sA 0) (p : Int × Int) : Calls Tryz.prog 50 #[.pointer (some ⟨b, 0, none⟩), .int .i64 p.1, .int .i64 p.2] w fun r w' => r = .returned (.int .i64 (tookA p).1) ∧ Only [b] w w' ∧ Wk F e w' b sN sV sA (tookA p).2 := by
  refine ret (eval_worker_took_wp ⟨b, 0, none⟩ p.1 p.2 (fun v w' => v = .int .i64 (tookA p).1 ∧ Only [b] w w' ∧ Wk F e w' b sN sV sA (tookA p).2) w ?_)
  unfold eval_worker_took_vc
  refine (fail_c h p.2).mono ?_
  rintro _ w0 ⟨rfl, hO0, h0⟩
  rw [if_pos rfl] at h0
  refine ⟨_, rfl, _, Blk.at1 h0.blk 3 rfl, fun hc => ?_, fun hc => ?_⟩
  · have hc : p.2 ≠ 0 := by simpa using hc
    rw [tookA, if_pos hc]
    exact ⟨rfl, hO0, h0⟩
  · have hc : p.2 = 0 := by simpa using hc
    rw [tookA, if_neg (by simp [hc])]
    exact ⟨rfl, hO0, h0⟩
theorem indexE_c {s : Sl} {l : List (List UInt8)} (h : SliceF rTx 1 w F s l) (c : List UInt8) :
    Calls Tryz.prog 94 #[Sl.v s, .string (T c)] w fun r w' => r = .returned (.int .i64 (if ixA c l < l.length then (ixA c l : Int) else -1)) ∧ w' = w := by
  refine ret (slices_Index_string_wp s _ (fun v w' => v = .int .i64 (if ixA c l < l.length then (ixA c l : Int) else -1) ∧ w' = w) w ?_)
  unfold slices_Index_string_vc
  have hlen := h.len
  have hbig := h.big
  have hcap := h.cap
  refine ⟨fun nv i w' => ∃ n : Nat, n ≤ l.length ∧ i = (n : Int) ∧ nv = l.length - n ∧ ixA c l = n + ixA c (l.drop n) ∧ w' = w, l.length, ⟨0, Nat.zero_le _, rfl, rfl, by rw [List.drop_zero, Nat.zero_add], rfl⟩, ?_⟩
  rintro nv _ _ ⟨n, hn, rfl, rfl, hp, rfl⟩
  refine ⟨fun hc => ?_, fun hc => ?_⟩
  · have hlt : (n : Int) < s.n := of_decide_eq_true hc
    obtain ⟨ad, x, cs, g1, g2, g3, g4, g5, g6⟩ := h.get (Int.natCast_nonneg n) hlt
    rw [Int.toNat_natCast] at g2
    unfold rTx at g6
    subst g6
    have hd : l.drop n = x :: l.drop (n + 1) := by rw [List.drop_eq_getElem_cons (List.getElem?_eq_some_iff.1 g2).1, (List.getElem?_eq_some_iff.1 g2).2]
    rw [hd, ixA] at hp
    refine ⟨ad, g1, _, g5, ?_⟩
    rw [T_eq]
    refine ⟨fun he => ⟨?_, rfl⟩, fun he => ⟨l.length - (n + 1), by omega, n + 1, by omega, by rw [wr' (by omega) (by omega)]; rfl, rfl, ?_, rfl⟩⟩
    · have he : c = x := of_decide_eq_true he
      rw [if_pos he.symm] at hp
      rw [if_pos (by omega), hp, Nat.add_zero]
    · have he : c ≠ x := of_decide_eq_false he
      rw [if_neg (fun h => he h.symm)] at hp
      omega
  · have hge : ¬ ((n : Int) < s.n) := of_decide_eq_false hc
    rw [List.drop_of_length_le (by omega), ixA] at hp
    rw [if_neg (by omega)]
    exact ⟨rfl, rfl⟩
theorem named_c (h : Wk F e w b sN sV sA 0) (s : List UInt8) : Calls Tryz.prog 48 #[.pointer (some ⟨b, 0, none⟩), .string (T s)] w fun r w' => r = .returned (.int .i64 (namedA e s).1) ∧ Only [b] w w' ∧ Wk F e w' b sN sV sA (namedA e s).2 := by
  refine ret (eval_worker_named_wp ⟨b, 0, none⟩ _ (fun v w' => v = .int .i64 (namedA e s).1 ∧ Only [b] w w' ∧ Wk F e w' b sN sV sA (namedA e s).2) w ?_)
  unfold eval_worker_named_vc
  have l1 := h.n.len
  have l2 := h.v.len
  have l3 := h.n.cap
  have l4 := h.n.big
  refine ⟨sN, Blk.at1 h.blk 0 rfl, (indexE_c h.n s).mono ?_⟩
  rintro _ _ ⟨rfl, rfl⟩
  refine ⟨_, rfl, sV, fun _ => Blk.at1 h.blk 1 rfl, fun hc => (fail_c h 23).mono ?_, fun hc => ?_⟩
  · rintro _ w1 ⟨rfl, hO1, h1⟩
    rw [if_pos rfl] at h1
    have hc : ¬ (ixA s e.N < e.N.length ∧ ixA s e.N < e.V.length) := fun hh => by
      rw [if_pos hh.1] at hc
      simp only [Bool.or_eq_true, decide_eq_true_eq] at hc
      omega
    rw [namedA, if_neg hc]
    exact ⟨_, rfl, rfl, hO1, h1⟩
  · have hc : ixA s e.N < e.N.length ∧ ixA s e.N < e.V.length := by
      simp only [Bool.or_eq_false_iff, decide_eq_false_iff_not] at hc
      by_cases h1 : ixA s e.N < e.N.length
      · rw [if_pos h1] at hc
        omega
      · rw [if_neg h1] at hc
        omega
    rw [namedA, if_pos hc, if_pos hc.1]
    obtain ⟨ad, x, cs, g1, g2, g3, g4, g5, g6⟩ := h.v.get (i := (ixA s e.N : Int)) (Int.natCast_nonneg _) (by omega)
    rw [Int.toNat_natCast] at g2
    obtain ⟨rfl, _⟩ := g6
    rw [g2]
    exact ⟨sV, Blk.at1 h.blk 1 rfl, ad, g1, x, g5, rfl, Only.refl _ _, h⟩
end
theorem wexpr_c : ∀ (d : Nat) {F G : Nat → Prop} {e : Env5} {w : World} {b : Nat} {sN sV sA : Sl} {x : Ex} {cs : List Value}, Wk F e w b sN sV sA 0 → rEx d w G x cs → (∀ k, G k → k < b) →
    Calls Tryz.prog 24 #[.pointer (some ⟨b, 0, none⟩), .agg cs.toArray] w fun r w' => r = .returned (.int .i64 (evM e d x).1) ∧ Only [b] w w' ∧ Wk F e w' b sN sV sA (evM e d x).2
  | 0, _, _, _, _, _, _, _, _, _, _, _, h, _ => h.elim
  | d + 1, F, G, e, w, b, sN, sV, sA, x, cs, hW, ⟨sl, h1, h2⟩, hG => by
    subst h1
    refine ret (eval_worker_expr_wp ⟨b, 0, none⟩ x.k x.n (T x.s) x.op sl x.a (fun v w' => v = .int .i64 (evM e (d + 1) x).1 ∧ Only [b] w w' ∧ Wk F e w' b sN sV sA (evM e (d + 1) x).2) w ?_)
    unfold eval_worker_expr_vc
    intro k0 w0 hk0 hk0' hO0
    have hb := hW.lb
    have hlen := h2.len
    have hW0 := hW.only hO0
    have z0 := hO0.size
    have hO0b : Only [b] w w0 := hO0.weaken fun _ h => (by cases h)
    have sm : ∀ {u u' : World}, w0.heap.size ≤ u.heap.size → Only [b] u u' → Same [k0] u u' := fun hu hO => hO.same (by simp; omega)
    have sub : ∀ {w1 : World} {i : Nat} {y : Ex}, Only [b] w0 w1 → x.subs[i]? = some y → ∃ ad sy, SlAt sl (i : Int) 6 ad ∧ Cells w1 ad (exv y.k y.n y.s y.op sy y.a) ∧ rEx d w1 G y (exv y.k y.n y.s y.op sy y.a) := fun {w1 i y} hO hy => by
      have hS := SliceF.only (rEx_ok d) (by decide) (SliceF.only (rEx_ok d) (by decide) h2 hO0 (by simp)) hO fun k hk _ hm => by have := hG k hk; simp only [List.mem_singleton] at hm; omega
      have hlt := (List.getElem?_eq_some_iff.1 hy).1
      obtain ⟨ad, y', cs, g1, g2, g3, g4, g5, g6⟩ := hS.get (Int.natCast_nonneg i) (by omega)
      rw [Int.toNat_natCast, hy] at g2
      injection g2 with g2
      subst g2
      have : ∃ sy : Sl, cs = exv y.k y.n y.s y.op sy y.a := by
        cases d with
        | zero => exact g6.elim
        | succ d => obtain ⟨sy, hcs, _⟩ := g6; exact ⟨sy, hcs⟩
      obtain ⟨sy, rfl⟩ := this
      exact ⟨ad, sy, g1, g5, g6⟩
    have hcond : ((((0 : Int) != 0) || decide (x.k < 1)) || decide (x.k > 5) || ((sl.n : Int) != (if 0 > (IntKind.wrap .i64 (x.k - 3)) then 0 else IntKind.wrap .i64 (x.k - 3)))) = decide (x.k < 1 ∨ 5 < x.k ∨ (x.subs.length : Int) ≠ partsA x.k) := by
      rw [hlen]
      have : (if 0 > (IntKind.wrap .i64 (x.k - 3)) then 0 else IntKind.wrap .i64 (x.k - 3)) = partsA x.k := rfl
      rw [this, Bool.eq_iff_iff]
      simp only [Bool.or_eq_true, decide_eq_true_eq, bne_iff_ne, ne_eq, not_true_eq_false, false_or]
      constructor
      · rintro ((h | h) | h)
        · exact .inl h
        · exact .inr (.inl h)
        · exact .inr (.inr h)
      · rintro (h | h | h)
        · exact .inl (.inl h)
        · exact .inl (.inr h)
        · exact .inr h
    refine ⟨0, Blk.at1 hW0.blk 3 rfl, ?_⟩
    rw [hcond]
    refine ⟨fun hc => (fail_c hW0 22).mono ?_, fun hc => ?_⟩
    · rintro _ w1 ⟨rfl, hO1, h1⟩
      rw [if_pos rfl] at h1
      rw [evM, if_pos (of_decide_eq_true hc)]
      exact ⟨_, rfl, sm (Nat.le_refl _) hO1, rfl, hO0b.trans hO1 fun x hx => .inl hx, h1⟩
    have hc := of_decide_eq_false hc
    have hev : evM e (d + 1) x = (if x.k = 1 then (x.n, 0) else if x.k = 2 then namedA e x.s else if x.k = 3 then (trA (e.A.contains x.s), 0)
    else match x.subs with
      | [] => (0, 22)
      | y :: r => if (evM e d y).2 ≠ 0 then (0, (evM e d y).2) else if x.k = 4 then tookA (oneA x.op (evM e d y).1)
        else if x.op = 12 ∧ (evM e d y).1 = 0 then (0, 0) else if x.op = 13 ∧ (evM e d y).1 ≠ 0 then (1, 0)
        else match r with
          | [] => (0, 22)
          | z :: _ => if (evM e d z).2 ≠ 0 then (0, (evM e d z).2) else tookA (doA x.op (evM e d y).1 (evM e d z).1)) := by rw [evM, if_neg hc]
    rw [hev]
    refine ⟨fun hk => ?_, fun k1 => ⟨fun hk => (named_c hW0 x.s).mono ?_, fun k2 => ⟨fun hk w3 hO3 => ?_, fun k3 => ?_⟩⟩⟩
    · rw [if_pos (by simpa using hk)]
      exact ⟨rfl, hO0b, hW0⟩
    · have k1 : x.k ≠ 1 := by simpa using k1
      rw [if_neg k1, if_pos (by simpa using hk)]
      rintro _ w2 ⟨rfl, hO2, h2⟩
      exact ⟨_, rfl, sm (Nat.le_refl _) hO2, rfl, hO0b.trans hO2 fun x hx => .inl hx, h2⟩
    · have k1 : x.k ≠ 1 := by simpa using k1
      have k2 : x.k ≠ 2 := by simpa using k2
      rw [if_neg k1, if_neg k2, if_pos (by simpa using hk)]
      have hW3 := hW0.only hO3
      have z3 := hO3.size
      refine ⟨sA, Blk.at1 hW3.blk 2 rfl, (containsS_c hW3.a x.s).mono ?_⟩
      rintro _ w4 ⟨rfl, hO4⟩
      have hO04 : Only [b] w w4 := (hO0b.tr0 hO3).tr0 hO4
      refine ⟨_, rfl, sm z3 (hO4.weaken fun _ h => (by cases h)), fun hb => ?_, fun hb => ?_⟩
      · rw [hb]; exact ⟨rfl, hO04, hW3.only hO4⟩
      · rw [hb]; exact ⟨rfl, hO04, hW3.only hO4⟩
    · have k1 : x.k ≠ 1 := by simpa using k1
      have k2 : x.k ≠ 2 := by simpa using k2
      have k3 : x.k ≠ 3 := by simpa using k3
      rw [if_neg k1, if_neg k2, if_neg k3]
      have hk45 : x.k = 4 ∨ x.k = 5 := by omega
      have hp : partsA x.k = x.k - 3 := by
        unfold partsA
        rw [wr' (by omega) (by omega), if_neg (by omega)]
      have hsl : (x.subs.length : Int) = x.k - 3 := by
        refine Decidable.byContradiction fun hn => hc (.inr (.inr (by rw [hp]; exact hn)))
      obtain ⟨y, r, hy⟩ : ∃ y r, x.subs = y :: r := by
        cases hm : x.subs with
        | nil => rw [hm] at hsl; simp at hsl; omega
        | cons y r => exact ⟨y, r, rfl⟩
      rw [hy]
      obtain ⟨p, sy, g1, g2, g3⟩ := sub (i := 0) (Only.refl _ _) (y := y) (by rw [hy]; rfl)
      refine ⟨p, g1, _, _, _, _, _, _, g2, (wexpr_c d hW0 g3 hG).mono ?_⟩
      rintro _ w5 ⟨rfl, hO5, h5⟩
      have z5 := hO5.size
      have hO05 := hO0b.trans hO5 fun x hx => .inl hx
      dsimp only
      refine ⟨_, rfl, sm (Nat.le_refl _) hO5, _, Blk.at1 h5.blk 3 rfl, fun hi => ?_, fun hi => ?_⟩
      · have hi : (evM e d y).2 ≠ 0 := by simpa using hi
        rw [if_pos hi]
        exact ⟨rfl, hO05, h5⟩
      have hi : (evM e d y).2 = 0 := by simpa using hi
      rw [if_neg (by simp [hi])]
      rw [hi] at h5
      refine ⟨fun hk => (one1_c _ _ _).mono ?_, fun hk4 => ⟨fun ha => ?_, fun ha => ⟨fun ho => ?_, fun ho => ?_⟩⟩⟩
      · rintro _ _ ⟨rfl, rfl⟩
        rw [if_pos (by simpa using hk)]
        refine ⟨_, _, rfl, fun _ _ => rfl, (took_c h5 _).mono ?_⟩
        rintro _ w7 ⟨rfl, hO7, h7⟩
        exact ⟨_, rfl, sm z5 hO7, rfl, hO05.trans hO7 fun x hx => .inl hx, h7⟩
      · have hk4 : x.k ≠ 4 := by simpa using hk4
        have ha : x.op = 12 ∧ (evM e d y).1 = 0 := by simpa using ha
        rw [if_neg hk4, if_pos ha]
        exact ⟨rfl, hO05, h5⟩
      · have hk4 : x.k ≠ 4 := by simpa using hk4
        have ha : ¬ (x.op = 12 ∧ (evM e d y).1 = 0) := fun hh => by rw [hh.1, hh.2] at ha; simp at ha
        have ho : x.op = 13 ∧ (evM e d y).1 ≠ 0 := by simpa using ho
        rw [if_neg hk4, if_neg ha, if_pos ho]
        exact ⟨rfl, hO05, h5⟩
      · have hk4 : x.k ≠ 4 := by simpa using hk4
        have ha : ¬ (x.op = 12 ∧ (evM e d y).1 = 0) := fun hh => by rw [hh.1, hh.2] at ha; simp at ha
        have ho : ¬ (x.op = 13 ∧ (evM e d y).1 ≠ 0) := fun hh => by
          have : ((x.op == 13) && ((evM e d y).1 != 0)) = true := by simp [hh.1, hh.2]
          rw [this] at ho; cases ho
        rw [if_neg hk4, if_neg ha, if_neg ho]
        obtain ⟨z, hz⟩ : ∃ z, r = [z] := by
          have : r.length = 1 := by
            rw [hy, List.length_cons] at hsl
            omega
          exact List.length_eq_one_iff.1 this
        subst hz
        dsimp only
        obtain ⟨p1, sz, f1, f2, f3⟩ := sub (i := 1) hO5 (y := z) (by rw [hy]; rfl)
        refine ⟨p1, f1, _, _, _, _, _, _, f2, (wexpr_c d h5 f3 hG).mono ?_⟩
        rintro _ w8 ⟨rfl, hO8, h8⟩
        have z8 := hO8.size
        have hO08 := hO05.trans hO8 fun x hx => .inl hx
        refine ⟨_, rfl, sm z5 hO8, _, Blk.at1 h8.blk 3 rfl, fun hi2 => ?_, fun hi2 => (do_c _ _ _ _).mono ?_⟩
        · have hi2 : (evM e d z).2 ≠ 0 := by simpa using hi2
          rw [if_pos hi2]
          exact ⟨rfl, hO08, h8⟩
        · have hi2 : (evM e d z).2 = 0 := by simpa using hi2
          rintro _ _ ⟨rfl, rfl⟩
          rw [if_neg (by simp [hi2])]
          rw [hi2] at h8
          refine ⟨_, _, rfl, fun _ _ => rfl, (took_c h8 _).mono ?_⟩
          rintro _ w10 ⟨rfl, hO10, h10⟩
          exact ⟨_, rfl, sm (by omega) hO10, rfl, hO08.trans hO10 fun x hx => .inl hx, h10⟩
theorem evM_norm (e : Env5) : ∀ (d : Nat) (x : Ex), (evM e d x).2 ≠ 0 → (evM e d x).1 = 0
  | 0, _, _ => rfl
  | d + 1, x, h => by
    have tk : ∀ p : Int × Int, (tookA p).2 ≠ 0 → (tookA p).1 = 0 := fun p hp => by
      unfold tookA at hp ⊢
      split
      · rfl
      · rename_i hh
        rw [if_neg hh] at hp
        exact absurd hp hh
    rw [evM] at h ⊢
    split
    · rfl
    rename_i h0
    rw [if_neg h0] at h
    split
    · rename_i h1; rw [if_pos h1] at h; exact absurd rfl h
    rename_i h1
    rw [if_neg h1] at h
    split
    · rename_i h2
      rw [if_pos h2] at h
      unfold namedA at h ⊢
      split
      · rename_i h3; rw [if_pos h3] at h; exact absurd rfl h
      · rfl
    rename_i h2
    rw [if_neg h2] at h
    split
    · rename_i h3; rw [if_pos h3] at h; exact absurd rfl h
    rename_i h3
    rw [if_neg h3] at h
    cases hs : x.subs with
    | nil => rfl
    | cons y r =>
      rw [hs] at h
      dsimp only at h ⊢
      split
      · rfl
      rename_i h4
      rw [if_neg h4] at h
      split
      · rename_i h5; rw [if_pos h5] at h; exact tk _ h
      rename_i h5
      rw [if_neg h5] at h
      split
      · rfl
      rename_i h6
      rw [if_neg h6] at h
      split
      · rename_i h7; rw [if_pos h7] at h; exact absurd rfl h
      rename_i h7
      rw [if_neg h7] at h
      cases r with
      | nil => rfl
      | cons z r =>
        dsimp only at h ⊢
        split
        · rfl
        rename_i h8
        rw [if_neg h8] at h
        exact tk _ h
theorem eval_c {d : Nat} {F G : Nat → Prop} {e : Env5} {w : World} {sN sV sA : Sl} {x : Ex} {cs : List Value} (hx : rEx d w G x cs) (hN : SliceF rTx 1 w F sN e.N) (hV : SliceF rInt 1 w F sV e.V) (hA : SliceF rTx 1 w F sA e.A) :
    Calls Tryz.prog 11 #[.agg cs.toArray, .agg #[sN.v, sV.v, sA.v]] w fun r w' => r = .returned (.tuple #[.int .i64 (evM e d x).1, .int .i64 (evM e d x).2]) ∧ Only [] w w' := by
  have hcs : ∃ sl : Sl, cs = exv x.k x.n x.s x.op sl x.a := by
    cases d with
    | zero => exact hx.elim
    | succ d => obtain ⟨sl, hcs, _⟩ := hx; exact ⟨sl, hcs⟩
  obtain ⟨sl, rfl⟩ := hcs
  refine ret (eval_Eval_wp x.k x.n (T x.s) x.op sl x.a sN sV sA (fun v w' => v = .tuple #[.int .i64 (evM e d x).1, .int .i64 (evM e d x).2] ∧ Only [] w w') w ?_)
  unfold eval_Eval_vc
  intro k0 k1 k2 w0 hk0 hk0' hk1 hk1' hk2 hk2' hO0 hB0 n02 n12
  have z0 := hO0.size
  have hW : Wk (fun k => F k ∧ k < w.heap.size) e w0 k2 sN sV sA 0 := ⟨hB0, SliceF.only rTx_ok (by decide) (SliceF.inHeap rTx_ok hN (by decide)) hO0 (by simp), SliceF.only rInt_ok (by decide) (SliceF.inHeap rInt_ok hV (by decide)) hO0 (by simp), SliceF.only rTx_ok (by decide) (SliceF.inHeap rTx_ok hA (by decide)) hO0 (by simp), fun k hk => by have := hk.2; omega⟩
  refine (wexpr_c d hW (rEx_only ((rEx_ok d).inHeap hx) hO0) (fun k hk => by have := hk.2; omega)).mono ?_
  rintro _ w1 ⟨rfl, hO1, h1⟩
  have hO01 : Only [] w w1 := hO0.trans hO1 fun x hx => .inr (by simp only [List.mem_singleton] at hx; omega)
  refine ⟨_, rfl, hO1.same (by simp; omega), sN, sV, sA, _, h1.blk, fun hi w2 hO2 _ => ?_, fun hi => ?_⟩
  · have hi : (evM e d x).2 ≠ 0 := by simpa using hi
    rw [evM_norm e d x hi]
    exact ⟨rfl, hO01.tr0 hO2⟩
  · have hi : (evM e d x).2 = 0 := by simpa using hi
    rw [hi]
    exact ⟨rfl, hO01⟩
end Go.Proofs.YtmanockofcopjaaGreatDoor.Con
