
/-
  Own work: a walk by reckoning, part 13: a region; code ('V'); a function ('Vfn'); that what is asked suffices. No program in sight.
-/
import Derived.Test.YtmanockofcopjaaGreatDoorVL
import Derived.Defers
namespace Go.Kt.V
open Go Go.RowKit Go.Kt
set_option linter.unusedSimpArgs false
set_option linter.unusedVariables false

/-- what a walk needs to be told of code: nothing; of a row; where ways meet (slots that are kept, what is open) -/
inductive Ann where
  | o
  | s (x y : Ann)
  | j (kp : List Nat) (ms : List MI) (x y : Ann)
  | l (jn : Bool) (kp : List Nat) (ms : List MI)
def fuel : Nat := 4000
/-- own variables lie apart -/
def neP (k : Nat) : List Box → Prop → Prop
  | [], p => p
  | b :: r, p => bif b.ok && b.blk.isSome then (k ≠ b.blk.getD 0 → neP k r p) else neP k r p
def neqs : List Box → Prop → Prop
  | [], p => p
  | b :: r, p => bif b.ok && b.blk.isSome then neP (b.blk.getD 0) r (neqs r p) else neqs r p
theorem neP_ok {k : Nat} : ∀ {l : List Box} {p : Prop}, neP k l p → (∀ i b, nthB l i = some b → b.ok = true → b.blk.isSome = true → k ≠ b.blk.getD 0) → p
  | [], _, h, _ => h
  | b :: r, p, h, hb => by
    unfold neP at h
    cases hc : (b.ok && b.blk.isSome) with
    | true =>
      rw [hc] at h
      simp only [Bool.and_eq_true] at hc
      exact neP_ok (h (hb 0 b rfl hc.1 hc.2)) fun i c hi => hb (i + 1) c hi
    | false =>
      rw [hc] at h
      exact neP_ok h fun i c hi => hb (i + 1) c hi
theorem neqs_ok : ∀ {l : List Box} {p : Prop}, neqs l p → (∀ i j bi bj, nthB l i = some bi → nthB l j = some bj → bi.ok = true → bj.ok = true → bi.blk.isSome = true → bj.blk.isSome = true → i ≠ j → bi.blk.getD 0 ≠ bj.blk.getD 0) → p
  | [], _, h, _ => h
  | b :: r, p, h, hb => by
    unfold neqs at h
    have tl : ∀ {p : Prop}, neqs r p → p := fun h => neqs_ok h fun i j bi bj h1 h2 h3 h4 h5 h6 h7 => hb (i + 1) (j + 1) bi bj h1 h2 h3 h4 h5 h6 (by omega)
    cases hc : (b.ok && b.blk.isSome) with
    | true =>
      rw [hc] at h
      simp only [Bool.and_eq_true] at hc
      exact tl (neP_ok h fun i c hi h1 h2 => hb 0 (i + 1) b c rfl hi hc.1 h1 hc.2 h2 (by omega))
    | false =>
      rw [hc] at h
      exact tl h
def regP (P : Program) (ops : List Oper) (draw : Bool) (st : St) (K : St → Prop) : Prop :=
  bif draw then
    bif allPure P ops && Region.lexB .any ops.toArray then exI (anyMem ops) st fun st => seqP P ops fuel [] ops st fun st => K { st with mv := true }
    else bif mbN P ops 0 ops then expose { st with mv := true } fun st => neqs (bif msN P ops 0 ops then st.bx else []) (∃ S : Nat → Prop, drP P ops true (msN P ops 0 ops) S ops.length (Array.replicate ops.length false) st K)
    else drP P ops false false (fun _ => False) ops.length (Array.replicate ops.length false) { st with mv := true } K
  else linP P ops fuel ops st K
def QR (st : St) (K : St → Prop) : Exit → Act → World → Prop := fun e a w => match e with
  | .normal => ∃ β st', K st' ∧ Ext st st' ∧ Rep β st' a w
  | _ => False
theorem Ext.mv (s : St) : Ext s { s with mv := true } := ⟨rfl, Nat.le_refl _, fun _ _ _ h _ => h, fun i b h ho _ => ⟨b, h, ho, rfl, rfl, rfl, fun _ h => h⟩, psr, dfr⟩
theorem Rep.drew {β : Nat → Nat} {s : St} {a : Act} {w w' : World} (h : Rep β s a w) (hO : Only [] w w') (hh : w'.heap = w.heap) : Rep β { s with mv := true } a w' :=
  ⟨h.fr, fun i b hb ho => by
    obtain ⟨k1, k2, k3⟩ := h.bx i b hb ho
    exact ⟨by unfold Blk at k1 ⊢; rw [hh]; exact k1, k2, k3⟩, h.ne, h.only.tr0 hO, fun h => by cases h⟩
section
variable {P : Program}
theorem regP_ok (hm : P.follows .mixedOrders = true) {id : Nat} {ops : Array Oper} {draw : Bool} {st : St} {K : St → Prop} {β : Nat → Nat} {a : Act} {w : World} (h : regP P ops.toList draw st K) (hR : Rep β st a w) :
    (Code.region id ops draw).wp P (QR st K) a w := by
  obtain ⟨l⟩ := ops
  unfold regP at h
  rcases bif2 h with ⟨hd, hx⟩ | ⟨hd, hx⟩ <;> clear h <;> have h := hx <;> clear hx
  · subst hd
    have hR' : Rep β { st with mv := true } a w.drew := hR.drew (Only.drewN w 1) rfl
    have fin : ∀ {mb ms : Bool} {S : Nat → Prop} {s1 : St}, Ext st s1 → Rep β s1 a w.drew → drP P l mb ms S l.length (Array.replicate l.length false) s1 K → (Code.region id l.toArray true).wp P (QR st K) a w := fun e1 hR1 h =>
      e_region _ hm (drP_ok (fun c a w hp => hp) h hR1 fun β' st' a' w' k1 k2 k3 => ⟨β', st', k1, e1.trans k2, k3⟩)
    rcases bif2 h with ⟨h0, h⟩ | ⟨_, h⟩
    · simp only [Bool.and_eq_true] at h0
      obtain ⟨s, h1, h2, h3, _⟩ := exI_ok h hR
      obtain ⟨s2, k1, k2, k3, k4⟩ := seqP_ok h1
      obtain ⟨a', g1, g2⟩ := k4 trivial β a w h3
      refine wp_region_quiet_lit hm h0.2 ?_
      have := goes_q (Q := fun a' => ∀ w', (∃ n, w' = w.drewN n) → QR st K .normal a' w') (rest := []) g1 (wpQuiet_nil (by
        rintro w' ⟨n, rfl⟩
        exact ⟨β, _, k1, (h2.trans k2).trans (Ext.mv _), g2.drew (Only.drewN w n) rfl⟩))
      rwa [List.append_nil] at this
    · rcases bif2 h with ⟨_, h⟩ | ⟨_, h⟩
      · obtain ⟨s1, h0, e1, hR1, _⟩ := expose_ok h hR'
        have hap : ∀ i j bi bj, nthB s1.bx i = some bi → nthB s1.bx j = some bj → bi.ok = true → bj.ok = true → bi.blk.isSome = true → bj.blk.isSome = true → i ≠ j → bi.blk.getD 0 ≠ bj.blk.getD 0 := fun i j bi bj h1 h2 h3 h4 h5 h6 h7 => by
          obtain ⟨k, hk⟩ := Option.isSome_iff_exists.1 h5
          obtain ⟨m, hm⟩ := Option.isSome_iff_exists.1 h6
          have e1 := (hR1.bx i bi h1 h3).at_ k hk
          have e2 := (hR1.bx j bj h2 h4).at_ m hm
          rw [hk, hm, Option.getD_some, Option.getD_some]
          have := hR1.ne i j bi bj h1 h2 h3 h4 h7
          omega
        obtain ⟨S, h1⟩ := neqs_ok h0 (by
          cases msN P l 0 l with
          | true => exact hap
          | false => exact fun i j bi bj h1 => by cases i <;> cases h1)
        exact fin ((Ext.mv st).trans e1) hR1 h1
      · exact fin (Ext.mv st) hR' h
  · subst hd
    refine wp_region_lit (linP_ok h hR fun β' st' a' w' k1 k2 k3 => ⟨β', st', k1, k2, k3⟩)

/-- a row in which own variables are made beside other work -/
def lateP (P : Program) (ops : List Oper) (jn : Bool) (kp : List Nat) (mi : List MI) (st : St) (K : St → Prop) : Prop :=
  bif zOk ops (lates P 0 ops) then expose st.mvd fun st =>
    (bif mbN P ops 0 ops then neqs (bif msN P ops 0 ops then st.bx else []) (∃ S : Nat → Prop, lateQ P ops jn kp mi true (msN P ops 0 ops) S (lates P 0 ops) (midL ops (zIx (lates P 0 ops)) ops.length (Array.replicate ops.length false)) (cntF (midL ops (zIx (lates P 0 ops)) ops.length (Array.replicate ops.length false)).toList) st K)
    else lateQ P ops jn kp mi false false (fun _ => False) (lates P 0 ops) (midL ops (zIx (lates P 0 ops)) ops.length (Array.replicate ops.length false)) (cntF (midL ops (zIx (lates P 0 ops)) ops.length (Array.replicate ops.length false)).toList) st K)
  else False
theorem lateP_ok (hm : P.follows .mixedOrders = true) {id : Nat} {ops : Array Oper} {jn : Bool} {kp : List Nat} {mi : List MI} {st : St} {K : St → Prop} {β : Nat → Nat} {a : Act} {w : World} (h : lateP P ops.toList jn kp mi st K) (hR : Rep β st a w) :
    (Code.region id ops true).wp P (QR st K) a w := by
  obtain ⟨l⟩ := ops
  unfold lateP at h
  obtain ⟨hz, h⟩ := bif_ok h
  have hR' : Rep β st.mvd a w.drew := hR.drew (Only.drewN w 1) rfl
  obtain ⟨s1, h0, e1, hR1, hm1, _⟩ := expose_ok h hR'
  have fin : ∀ {mb ms : Bool} {S : Nat → Prop} {mid : Array Bool} {gm : Nat}, lateQ P l jn kp mi mb ms S (lates P 0 l) mid gm s1 K → (Code.region id l.toArray true).wp P (QR st K) a w := fun h =>
    e_region _ hm (lateQ_ok (fun c a w hp => hp) hz h hR1 hm1 fun β' st' a' w' k1 k2 k3 => ⟨β', st', k1, ((Ext.mvd st).trans e1).trans k2, k3⟩)
  rcases bif2 h0 with ⟨_, h⟩ | ⟨_, h⟩
  · have hap : ∀ i j bi bj, nthB s1.bx i = some bi → nthB s1.bx j = some bj → bi.ok = true → bj.ok = true → bi.blk.isSome = true → bj.blk.isSome = true → i ≠ j → bi.blk.getD 0 ≠ bj.blk.getD 0 := fun i j bi bj h1 h2 h3 h4 h5 h6 h7 => by
      obtain ⟨k, hk⟩ := Option.isSome_iff_exists.1 h5
      obtain ⟨m, hm⟩ := Option.isSome_iff_exists.1 h6
      have e1 := (hR1.bx i bi h1 h3).at_ k hk
      have e2 := (hR1.bx j bj h2 h4).at_ m hm
      rw [hk, hm, Option.getD_some, Option.getD_some]
      have := hR1.ne i j bi bj h1 h2 h3 h4 h7
      omega
    obtain ⟨S, h1⟩ := neqs_ok h (by
      cases msN P l 0 l with
      | true => exact hap
      | false => exact fun i j bi bj h1 => by cases i <;> cases h1)
    exact fin h1
  · exact fin h
def V (P : Program) : Code → Ann → St → (Exit → St → Prop) → Prop
  | .skip, _, st, K => K .normal st
  | .label _, _, st, K => K .normal st
  | .exit id, _, st, K => K (.exit id) st
  | .ret, _, st, K => K .ret st
  | .region _ ops draw, an, st, K => (match an with
    | .l jn kp ms => bif draw then lateP P ops.toList jn kp ms st (K .normal) else False
    | .j kp ms _ _ => expose st fun st => ∃ J : JT (mLs ms), allJ (mLs ms) J (fun vs w => K .normal (meetSt st kp ms vs w)) ∧ regP P ops.toList draw st fun s => expose s fun s => endJ st kp ms J s
    | _ => regP P ops.toList draw st (K .normal))
  | .seq a b, an, st, K => (match an with
    | .s x y => V P a x st fun e s => (match e with
      | .normal => V P b y s K
      | e => K e s)
    | .j kp ms x y => expose st fun st => ∃ J : JT (mLs ms), allJ (mLs ms) J (fun vs w => V P b y (meetSt st kp ms vs w) K) ∧ V P a x st fun e s => (match e with
      | .normal => expose s fun s => endJ st kp ms J s
      | e => K e s)
    | _ => False)
  | .cond c a b, an, st, K => (match an with
    | .s x y => elimO (st.ev c) fun t => (match t with
      | .bl true => V P a x st K
      | .bl false => V P b y st K
      | .bt t => ((t = true → V P a x st K) ∧ (t = false → V P b y st K))
      | _ => False)
    | _ => False)
  | .block id c, an, st, K => V P c an st fun e s => (match e with
    | .exit id' => bif Nat.beq id' id then K .normal s else K (.exit id') s
    | e => K e s)
  | .loop c, an, st, K => (match an with
    | .j kp ms x _ => expose st fun st => ∃ (I : Nat → JT (mLs ms)) (n0 : Nat), endJ st kp ms (I n0) st ∧ ∀ n : Nat, allJ (mLs ms) (I n) fun vs w => V P c x (meetSt st kp ms vs w) fun e s => (match e with
      | .normal => expose s fun s => ∃ n', n' < n ∧ endJ st kp ms (I n') s
      | e => K e s)
    | _ => False)
  | _, _, _, _ => False
def QK (st : St) (K : Exit → St → Prop) : Exit → Act → World → Prop := fun e a w => match e with
  | .normal => ∃ β st', K .normal st' ∧ Ext st st' ∧ Rep β st' a w
  | .exit id => ∃ β st', K (.exit id) st' ∧ Ext st st' ∧ Rep β st' a w
  | .ret => ∃ β st', K .ret st' ∧ Ext st st' ∧ Rep β st' a w
  | _ => False
theorem QK_mono {st st1 : St} {K : Exit → St → Prop} (hx : Ext st st1) : ∀ e a w, QK st1 K e a w → QK st K e a w := fun e a w h => by
  cases e <;> first | exact h | (obtain ⟨β, st', h1, h2, h3⟩ := h; exact ⟨β, st', h1, hx.trans h2, h3⟩)
theorem V_ok (hm : P.follows .mixedOrders = true) : ∀ (c : Code) {an : Ann} {st : St} {K : Exit → St → Prop} {β : Nat → Nat} {a : Act} {w : World}, V P c an st K → Rep β st a w → c.wp P (QK st K) a w
  | .skip, _, st, K, β, a, w, h, hR => wp_skip ⟨β, st, h, Ext.refl _, hR⟩
  | .label _, _, st, K, β, a, w, h, hR => wp_label ⟨β, st, h, Ext.refl _, hR⟩
  | .exit _, _, st, K, β, a, w, h, hR => wp_exit ⟨β, st, h, Ext.refl _, hR⟩
  | .ret, _, st, K, β, a, w, h, hR => wp_ret ⟨β, st, h, Ext.refl _, hR⟩
  | .region id ops draw, an, st, K, β, a, w, h, hR => by
    unfold V at h
    split at h
    · cases draw with
      | false => exact h.elim
      | true =>
        refine wp_mono (lateP_ok hm h hR) fun e a' w' hq => ?_
        cases e <;> first | exact hq.elim | exact hq
    · rename_i kp ms _ _
      obtain ⟨s1, ⟨J, hJ, h⟩, e1, hR1, _⟩ := expose_ok h hR
      refine wp_mono (regP_ok hm h hR1) fun e a' w' hq => ?_
      cases e <;> try exact hq.elim
      obtain ⟨β', s2, h2, e2, hR2⟩ := hq
      obtain ⟨s3, h3, e3, hR3, hm3, _⟩ := expose_ok h2 hR2
      obtain ⟨vs, k1, k2⟩ := endJ_arr h3 hR3 hm3 (.inl (e2.trans e3)) hJ
      exact ⟨_, _, k1, e1.trans Ext.meet, k2⟩
    · refine wp_mono (regP_ok hm h hR) fun e a' w' hq => ?_
      cases e <;> first | exact hq.elim | exact hq
  | .seq x y, an, st, K, β, a, w, h, hR => by
    unfold V at h
    split at h
    · refine wp_seq (wp_mono (V_ok hm x h hR) fun e a' w' hq => ?_)
      cases e with
      | normal =>
        obtain ⟨β', s, h1, h2, h3⟩ := hq
        exact wp_mono (V_ok hm y h1 h3) (QK_mono h2)
      | _ => exact hq
    · rename_i kp ms _ _
      obtain ⟨s1, ⟨J, hJ, h⟩, e1, hR1, _⟩ := expose_ok h hR
      refine wp_seq (wp_mono (V_ok hm x h hR1) fun e a' w' hq => ?_)
      cases e with
      | normal =>
        obtain ⟨β', s2, h2, e2, hR2⟩ := hq
        obtain ⟨s3, h3, e3, hR3, hm3, _⟩ := expose_ok h2 hR2
        obtain ⟨vs, k1, k2⟩ := endJ_arr h3 hR3 hm3 (.inl (e2.trans e3)) hJ
        exact wp_mono (V_ok hm y k1 k2) (QK_mono (e1.trans Ext.meet))
      | exit _ => exact QK_mono e1 _ _ _ hq
      | ret => exact QK_mono e1 _ _ _ hq
      | _ => exact hq.elim
    · exact h.elim
  | .cond c x y, an, st, K, β, a, w, h, hR => by
    unfold V at h
    split at h
    · obtain ⟨t, ht, h⟩ := elimO_ex h
      have ev := hR.ev ht
      split at h
      · exact wp_cond_true ev (V_ok hm x h hR)
      · exact wp_cond_false ev (V_ok hm y h hR)
      · exact wp_cond_split ev (fun e => V_ok hm x (h.1 e) hR) (fun e => V_ok hm y (h.2 e) hR)
      · exact h.elim
    · exact h.elim
  | .block id c, an, st, K, β, a, w, h, hR => by
    unfold V at h
    refine wp_block (wp_mono (V_ok hm c h hR) fun e a' w' hq => ?_)
    cases e with
    | exit id' =>
      obtain ⟨β', s, h1, h2, h3⟩ := hq
      have h1 : bif Nat.beq id' id then K .normal s else K (.exit id') s := h1
      rcases bif2 h1 with ⟨e, h5⟩ | ⟨e, h5⟩
      · have := Nat.eq_of_beq_eq_true e
        subst this
        exact block_hit ⟨β', s, h5, h2, h3⟩
      · have hne : ¬ id' = id := fun h => by rw [h] at e; simp at e
        exact block_miss (by simpa using hne) ⟨β', s, h5, h2, h3⟩
    | normal => exact hq
    | ret => exact hq
    | _ => exact hq.elim
  | .loop c, an, st, K, β, a, w, h, hR => by
    unfold V at h
    split at h
    · rename_i kp ms x _
      obtain ⟨s1, ⟨I, n0, h0, h⟩, e1, hR1, hm1, _⟩ := expose_ok h hR
      refine wp_loop_ghost (fun n a' w' => ∀ K : List SV → World → Prop, allJ (mLs ms) (I n) K → ∃ vs, K vs w' ∧ Rep (blB s1.bx) (meetSt s1 kp ms vs w') a' w') n0 (fun K hK => endJ_arr h0 hR1 hm1 (.inl (Ext.refl _)) hK) fun n a' w' hI => ?_
      obtain ⟨vs, k1, k2⟩ := hI _ (h n)
      refine wp_mono (V_ok hm c k1 k2) fun e a2 w2 hq => ?_
      cases e with
      | normal =>
        obtain ⟨β2, s2, h2, e2, hR2⟩ := hq
        obtain ⟨s3, ⟨n', hn, h3⟩, e3, hR3, hm3, _⟩ := expose_ok h2 hR2
        exact ⟨n', hn, fun K hK => endJ_arr h3 hR3 hm3 (.inr ⟨vs, w', e2.trans e3⟩) hK⟩
      | exit _ => exact QK_mono (e1.trans Ext.meet) _ _ _ hq
      | ret => exact QK_mono (e1.trans Ext.meet) _ _ _ hq
      | _ => exact hq.elim
    · exact h.elim
  | .rangeFunc _ _ _ _, _, _, _, _, _, _, h, _ => by unfold V at h; exact h.elim
  | .scope _, _, _, _, _, _, _, h, _ => by unfold V at h; exact h.elim
  | .goto _, _, _, _, _, _, _, h, _ => by unfold V at h; exact h.elim
  | .refuse _, _, _, _, _, _, _, h, _ => by unfold V at h; exact h.elim

/-! ### a function -/
def resV (P : Program) (st : St) : List ResultVar → Option (List SV)
  | [] => some []
  | .tmp t :: r => (match st.get t, resV P st r with
    | some v, some l => some (v :: l)
    | _, _ => none)
  | .cell p t :: r => (match st.get p, P.underlying t, resV P st r with
    | some (.box i o), some d, some l => (match nthB st.bx i with
      | some b => bif b.ok && sz P t ((b.cells.drop o).take (szO P t)).length && (isAg d || Nat.beq ((b.cells.drop o).take (szO P t)).length 1) then some (ofC (isAg d) ((b.cells.drop o).take (szO P t)) :: l) else none
      | none => none)
    | _, _, _ => none)
def retP (P : Program) (rs : List ResultVar) (R : Value → World → Prop) (st : St) : Prop := elimO (resV P st rs) fun vs => expose (st.esc vs) fun st => bif clns (clB st.bx) vs then R (val (blB st.bx) (resS vs)) st.w0 else False
theorem resV_ok {β : Nat → Nat} {st : St} {a : Act} {w : World} (hR : Rep β st a w) : ∀ {rs : List ResultVar} {vs : List SV}, resV P st rs = some vs → resOk P a w rs (vals β vs)
  | [], vs, h => by simp only [resV, Option.some.injEq] at h; subst h; trivial
  | .tmp t :: r, vs, h => by
    simp only [resV] at h
    split at h
    · rename_i v l h1 h2
      simp only [Option.some.injEq] at h
      subst h
      exact ⟨hR.get h1, resV_ok hR h2⟩
    · cases h
  | .cell p t :: r, vs, h => by
    simp only [resV] at h
    split at h
    · rename_i i o d l h1 h2 h3
      split at h
      · rename_i b hb
        obtain ⟨h4, rfl⟩ := bifO h
        simp only [Bool.and_eq_true, Bool.or_eq_true] at h4
        obtain ⟨⟨hok, hsz⟩, hone⟩ := h4
        refine ⟨⟨⟨β i, o, none⟩, hR.get h1, ?_⟩, resV_ok hR h3⟩
        have hB := (hR.bx i b hb hok).blk
        generalize hl : (b.cells.drop o).take (szO P t) = q at *
        have hC : Cells w ⟨β i, o, none⟩ (vals β q) := hB.cellsAt o _ (by
          rw [vals_len, ← hl]
          simp only [vals, List.map_take, List.map_drop]
          rw [List.length_take, List.take_eq_take_iff]
          simp only [List.length_drop, List.length_map]
          omega)
        have hag := agg_run (P := P) h2 w
        cases hd : isAg d with
        | true =>
          rw [hd] at hag
          have e := ofC_agg hd β q
          rw [hd] at e
          rw [e]
          exact r_resultCell hag (sz_run hsz w) (vals_len β q) hC
        | false =>
          rw [hd] at hag hone
          obtain ⟨s, rfl⟩ := one_of (hone.resolve_left (by simp))
          exact r_resultCell1 hag (Cells.one hC)
      · cases h
    · cases h
def numS : Nat → List SV → List (Nat × Nat × SV)
  | _, [] => []
  | i, s :: r => (i, 0, s) :: numS (i + 1) r
theorem cv_numS (β : Nat → Nat) : ∀ (i : Nat) (l : List SV), cv β (numS i l) = numb i (vals β l)
  | _, [] => rfl
  | i, s :: r => by
    have := cv_numS β (i + 1) r
    simp only [cv] at this
    simp only [numS, cv, List.map_cons, vals, numb, this]
def st0 (fn : Func) (args : List SV) (w : World) : St := { n := fn.ntmps, fr := numS 0 args, bx := [], w0 := w, mv := false, dt := [], ct := 1, df := [] }
/-- a call that was put off, at a return -/
def CallsR (P : Program) (f : FuncId) (args : Array Value) (w : World) (Q : Value → World → Prop) : Prop := CallsD P f args .returning w fun e u w' => u = .returning ∧ ∃ v, e = .returned v ∧ Q v w'
/-- what was put off is done -/
def leaveP (P : Program) (R : Value → World → Prop) : List (Nat × List Value × List Value) → World → Prop
  | [], w => R (.tuple #[]) w
  | d :: ds, w => bif fnOk P d.1 then CallsR P d.1 (d.2.1 ++ d.2.2).toArray w fun _ w' => leaveP P R ds w' else False
def noRs : List ResultVar → Bool
  | [] => true
  | _ => false
def retD (P : Program) (rs : List ResultVar) (R : Value → World → Prop) (st : St) : Prop := match st.df with
  | [] => retP P rs R st
  | _ :: _ => bif noRs rs then expose st fun st => leaveP P R st.df st.w0 else False
/-- what is to be shown of a call -/
def Vfn (P : Program) (f : FuncId) (an : Ann) (args : List SV) (R : Value → World → Prop) (w : World) : Prop := elimO (P.funcs[f]?) fun fn => elimO fn.body fun c =>
  bif Nat.ble args.length fn.ntmps then V P c an (st0 fn args w) fun e st => (match e with
    | .normal => retD P fn.results.toList R st
    | .ret => retD P fn.results.toList R st
    | _ => False) else False
theorem ret_run {β : Nat → Nat} {st : St} {a : Act} {w : World} {fn : Func} {R : Value → World → Prop} (h : retP P fn.results.toList R st) (hR : Rep β st a w) : ∃ v, (results fn a.tmps).run P w = .ok v w ∧ R v w := by
  unfold retP at h
  obtain ⟨vs, hv, h⟩ := elimO_ex h
  obtain ⟨s1, h1, e1, hR1, hm, _⟩ := expose_ok h (hR.esc vs)
  obtain ⟨hc, h1⟩ := bif_ok h1
  have ho := resV_ok hR hv
  have hw := hR1.still hm
  rw [hR1.valE (cln_resS hc), ← hw] at h1
  refine ⟨_, ?_, h1⟩
  have hrs : fn.results = fn.results.toList.toArray := by simp
  match vs, ho, hc with
  | [s], ho, hc => exact r_res1 hrs ho
  | [], ho, hc =>
    have e : val β (resS []) = .tuple (vals β []).toArray := rfl
    rw [e]
    exact r_resN hrs rfl ho
  | s :: t :: r, ho, hc =>
    have e : val β (resS (s :: t :: r)) = .tuple (vals β (s :: t :: r)).toArray := by
      show Value.tuple (cvs β (ofL _)).toArray = _
      rw [cvs_ofL]
    rw [e]
    exact r_resN hrs (by simp [vals]) ho
theorem frame0 (args : List Value) {n : Nat} (hk : args.length ≤ n) : (⟨args.toArray ++ Array.replicate (n - args.toArray.size) undef, []⟩ : Act) = fr n (fun _ => undef) (numb 0 args) := by
  unfold fr
  congr 1
  apply Array.toList_inj.1
  rw [Array.toList_append, Array.toList_replicate, List.size_toArray]
  apply List.ext_getElem?
  intro i
  by_cases hi : i < n
  · rw [List.toList_toArray, tab_get _ _ _ _ _ hi, Nat.zero_add, look_numb, if_pos (Nat.zero_le _), Nat.sub_zero]
    by_cases hia : i < args.length
    · rw [List.getElem?_append_left hia, List.getElem?_eq_getElem hia]; rfl
    · rw [List.getElem?_append_right (by omega), List.getElem?_replicate, if_pos (by omega), List.getElem?_eq_none (by omega)]; rfl
  · rw [List.toList_toArray, List.getElem?_eq_none (by simp; omega), List.getElem?_eq_none (by rw [tab_len]; omega)]
theorem leaves_ok {fn : Func} {tmps : Array Value} {R : Value → World → Prop} (hr : fn.results.toList = []) : ∀ {l : List (Nat × List Value × List Value)} {w : World}, leaveP P R l w → Leaves P fn tmps (fun e w' => ∃ v, e = .returned v ∧ R v w') (dfs l) .returning w
  | [], w, h => by
    have hrs : fn.results = ([] : List ResultVar).toArray := by rw [← hr]
    exact ⟨_, r_resN (a := ⟨tmps, []⟩) (rs := []) (vs := []) hrs rfl trivial, _, rfl, h⟩
  | d :: ds, w, h => by
    unfold leaveP at h
    obtain ⟨h0, h⟩ := bif_ok h
    refine leaves_cons (fun h => by cases h) (f := d.1) (args := (d.2.1 ++ d.2.2).toArray) ?_ (h.mono ?_)
    · have := fnOk_run h0 (d.2.1 ++ d.2.2).toArray w
      rw [← List.append_toArray] at this ⊢
      exact this
    · rintro e u w' ⟨rfl, v, rfl, h⟩
      exact leaves_ok hr h
theorem retD_run {β : Nat → Nat} {st : St} {a : Act} {w : World} {fn : Func} {R : Value → World → Prop} (h : retD P fn.results.toList R st) (hR : Rep β st a w) : Leaves P fn a.tmps (fun e w' => ∃ v, e = .returned v ∧ R v w') a.defers .returning w := by
  rw [hR.ok.df]
  unfold retD at h
  split at h
  · rename_i hd
    rw [hd]
    obtain ⟨v, k1, k2⟩ := ret_run h hR
    exact ⟨v, k1, v, rfl, k2⟩
  · rename_i d ds hd
    obtain ⟨h0, h⟩ := bif_ok h
    obtain ⟨s1, h1, e1, hR1, hm, _⟩ := expose_ok h hR
    have hr : fn.results.toList = [] := by
      cases hc : fn.results.toList with
      | nil => rfl
      | cons _ _ => rw [hc] at h0; cases h0
    have hdf : s1.df = st.df := by
      obtain ⟨l, hl⟩ := e1.df
      have h5 : (dfs s1.df).length = (dfs st.df).length := congrArg List.length (hR1.ok.df.symm.trans hR.ok.df)
      rw [dfs, dfs, List.length_map, List.length_map, hl, List.length_append] at h5
      have : l = [] := List.length_eq_zero_iff.1 (by omega)
      rw [hl, this, List.nil_append]
    rw [← hR1.still hm] at h1
    rw [← hdf]
    exact leaves_ok hr h1
theorem fn_ok (hm : P.follows .mixedOrders = true) {f : FuncId} {an : Ann} {args : List SV} {R : Value → World → Prop} {w : World} (h : Vfn P f an args R w) : Calls P f (vals β0 args).toArray w fun e w' => ∃ v, e = .returned v ∧ R v w' := by
  unfold Vfn at h
  obtain ⟨fn, hf, h⟩ := elimO_ex h
  obtain ⟨c, hb, h⟩ := elimO_ex h
  obtain ⟨hn, h⟩ := bif_ok h
  have hR : Rep β0 (st0 fn args w) (fr fn.ntmps (fun _ => undef) (numb 0 (vals β0 args))) w :=
    ⟨⟨fun _ => undef, by rw [← cv_numS]; rfl⟩, fun i b hb => (by cases hb), fun i j bi bj hb => (by cases hb), Only.refl _ _, fun _ => rfl⟩
  refine calls_of_wp_defers hf hb ?_
  rw [frame0 _ (by rw [vals_len]; exact Nat.le_of_ble_eq_true hn)]
  refine wp_mono (V_ok hm c h hR) fun e a' w' hq => ?_
  cases e with
  | normal =>
    obtain ⟨β', s, h1, h2, h3⟩ := hq
    exact retD_run h1 h3
  | ret =>
    obtain ⟨β', s, h1, h2, h3⟩ := hq
    exact retD_run h1 h3
  | exit _ =>
    obtain ⟨β', s, h1, _⟩ := hq
    exact h1.elim
  | _ => exact hq.elim
theorem fn_by {f : FuncId} {an : Ann} {args : List SV} {R : Value → World → Prop} {w : World} {vs : Array Value} {vc : Prop} (hm : P.follows .mixedOrders = true) (hv : vs = (vals β0 args).toArray) (he : vc = Vfn P f an args R w) (h : vc) : Calls P f vs w fun e w' => ∃ v, e = .returned v ∧ R v w' := by
  subst he hv
  exact fn_ok hm h
end
end Go.Kt.V
