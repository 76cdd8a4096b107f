
/-
  Own work: a walk by reckoning, part 8: one operation that turns the world ('loud'), what is asked, that it suffices. No program in sight.
-/
import Derived.Test.YtmanockofcopjaaGreatDoorV7
namespace Go.Kt.V
open Go Go.RowKit Go.Kt
set_option linter.unusedSimpArgs false
set_option linter.unusedVariables false

def zc (P : Program) (t : TypeId) : Option (List SV) := match P.info? t with
  | some i => (match i.zero with
    | some z => ofVl z.cells.toList
    | none => none)
  | none => none
theorem zc_ok {P : Program} {t : TypeId} {zs : List SV} (h : zc P t = some zs) (w : World) : ∃ z, (zeroValue t).run P w = .ok z w ∧ ∀ β, z.cells = (vals β zs).toArray := by
  unfold zc at h
  split at h
  · rename_i i hi
    split at h
    · rename_i z hz
      exact ⟨z, by simp [zeroValue, typeInfo, hi, hz], fun β => by rw [ofVl_ok β h]⟩
    · cases h
  · cases h
def chk (st : St) (zs : List SV) : Bool := noFr st.bx.length st.fr && noBx st.bx.length st.bx && noBs st.bx.length zs && allOk st.bx st.dt
/-- all own variables have been shown -/
def allBd : List Box → Bool
  | [] => true
  | b :: r => (!b.ok || b.blk.isSome) && allBd r
theorem allBd_at : ∀ {l : List Box}, allBd l = true → ∀ i b, nthB l i = some b → b.ok = true → b.blk.isSome = true
  | c :: r, h, 0, b, hb, ho => by
    simp only [allBd, Bool.and_eq_true, Bool.or_eq_true, Bool.not_eq_true'] at h
    simp only [nthB, Option.some.injEq] at hb
    subst hb
    rcases h.1 with h1 | h1
    · rw [ho] at h1; cases h1
    · exact h1
  | c :: r, h, i + 1, b, hb, ho => by
    simp only [allBd, Bool.and_eq_true] at h
    exact allBd_at h.2 i b hb ho
def neB (bk : Nat) : List Box → Prop → Prop
  | [], p => p
  | b :: r, p => bif b.ok then b.blk.getD 0 ≠ bk ∧ neB bk r p else neB bk r p
theorem neB_ok {bk : Nat} : ∀ {l : List Box} {p : Prop}, neB bk l p → p ∧ ∀ i b, nthB l i = some b → b.ok = true → b.blk.getD 0 ≠ bk
  | [], p, h => ⟨h, fun i b hb => by cases hb⟩
  | c :: r, p, h => by
    unfold neB at h
    rcases bif2 h with ⟨hc, h⟩ | ⟨hc, h⟩
    · obtain ⟨h1, h2⟩ := h
      obtain ⟨h3, h4⟩ := neB_ok h2
      refine ⟨h3, fun i b hb ho => ?_⟩
      cases i with
      | zero => simp only [nthB, Option.some.injEq] at hb; subst hb; exact h1
      | succ i => exact h4 i b hb ho
    · obtain ⟨h3, h4⟩ := neB_ok h
      refine ⟨h3, fun i b hb ho => ?_⟩
      cases i with
      | zero => simp only [nthB, Option.some.injEq] at hb; subst hb; rw [hc] at ho; cases ho
      | succ i => exact h4 i b hb ho
def sameL (esc : Bool) : List Box → List Nat
  | [] => []
  | b :: r => bif b.ok && (esc || !b.esc) then b.blk.getD 0 :: sameL esc r else sameL esc r
theorem sameL_mem {esc : Bool} : ∀ {l : List Box} {i : Nat} {b : Box}, nthB l i = some b → b.ok = true → (esc || !b.esc) = true → b.blk.getD 0 ∈ sameL esc l
  | c :: r, 0, b, h, ho, he => by
    simp only [nthB, Option.some.injEq] at h
    subst h
    simp [sameL, ho, he]
  | c :: r, i + 1, b, h, ho, he => by
    have := sameL_mem (l := r) (i := i) h ho he
    simp only [sameL]
    cases (c.ok && (esc || !c.esc)) with
    | true => simp [this]
    | false => exact this
def sameB (l : List Nat) (w0 w1 : World) (p : Prop) : Prop := match l with
  | [] => p
  | _ => Same l w0 w1 ∧ p
theorem sameB_ok {l : List Nat} {w0 w1 : World} {p : Prop} (h : sameB l w0 w1 p) : p ∧ Same l w0 w1 := by
  unfold sameB at h
  split at h
  · exact ⟨h, same_nil⟩
  · exact ⟨h.2, h.1⟩
/-- own variables that others may have written -/
def trnB (P : Program) (w1 : World) (ct : Nat) : List Box → (List Box → Prop) → Prop
  | [], K => K []
  | b :: r, K => bif b.ok && b.esc then exl (shC P 12 b.ty) fun vs => Blk w1 (b.blk.getD 0) b.ty (vals β0 vs) ∧ trnB P w1 ct r fun r' => K ({ b with cells := vs, stp := ct, sh := true } :: r')
    else trnB P w1 ct r fun r' => K (b :: r')
theorem trnB_ok {P : Program} {w1 : World} {ct : Nat} : ∀ {l : List Box} {K : List Box → Prop}, trnB P w1 ct l K → ∃ l', K l' ∧ (∀ i b', nthB l' i = some b' → ∃ b, nthB l i = some b ∧ b'.ok = b.ok ∧ b'.blk = b.blk ∧ b'.ty = b.ty ∧
    ((b' = b ∧ (b.ok && b.esc) = false) ∨ (b'.stp = ct ∧ (∀ β, vals β b'.cells = vals β0 b'.cells) ∧ Blk w1 (b.blk.getD 0) b.ty (vals β0 b'.cells)))) ∧
    ∀ i b, nthB l i = some b → ∃ b', nthB l' i = some b' ∧ b'.ty = b.ty ∧ b'.ok = b.ok ∧ ∀ k, b.blk = some k → b'.blk = some k
  | [], K, h => ⟨[], h, fun i b' hb => (by cases hb), fun i b hb => (by cases hb)⟩
  | c :: r, K, h => by
    unfold trnB at h
    rcases bif2 h with ⟨hc, h⟩ | ⟨hc, h⟩
    · obtain ⟨vs, ⟨hB, h⟩, _, hcl⟩ := exl_ex h
      obtain ⟨l', h1, h2, h3⟩ := trnB_ok h
      refine ⟨_, h1, fun i b' hb => ?_, fun i b hb => ?_⟩
      rotate_left
      · cases i with
        | zero => simp only [nthB, Option.some.injEq] at hb; subst hb; exact ⟨_, rfl, rfl, rfl, fun _ h => h⟩
        | succ i => exact h3 i b hb
      cases i with
      | zero =>
        simp only [nthB, Option.some.injEq] at hb
        subst hb
        exact ⟨c, rfl, rfl, rfl, rfl, .inr ⟨rfl, fun β => vals_congr (g := fun _ => false) (fun i h => (by cases h)) vs (hcl _), hB⟩⟩
      | succ i => exact h2 i b' hb
    · obtain ⟨l', h1, h2, h3⟩ := trnB_ok h
      refine ⟨_, h1, fun i b' hb => ?_, fun i b hb => ?_⟩
      rotate_left
      · cases i with
        | zero => simp only [nthB, Option.some.injEq] at hb; subst hb; exact ⟨_, rfl, rfl, rfl, fun _ h => h⟩
        | succ i => exact h3 i b hb
      cases i with
      | zero =>
        simp only [nthB, Option.some.injEq] at hb
        subst hb
        exact ⟨c, rfl, rfl, rfl, rfl, .inl ⟨rfl, hc⟩⟩
      | succ i => exact h2 i b' hb

/-! ### results -/
def exR (P : Program) : List TypeId → (List SV → Prop) → Prop
  | [], K => K []
  | t :: r, K => exl (shC P 12 t) fun vs => exR P r fun rs => K (ofC (match P.underlying t with | some d => isAg d | none => false) vs :: rs)
theorem cln_ofL (g : Nat → Bool) : ∀ l, cln g (ofL l) = clns g l
  | [] => rfl
  | s :: r => by simp only [ofL, cln, clns, cln_ofL g r]
theorem cln_ofC (g : Nat → Bool) (ag : Bool) {l : List SV} (h : clns g l = true) : cln g (ofC ag l) = true := by
  cases ag with
  | true => show cln g (ofL l) = true; rw [cln_ofL]; exact h
  | false =>
    cases l with
    | nil => rfl
    | cons s r => simp only [clns, Bool.and_eq_true] at h; exact h.1
theorem exR_ex {P : Program} : ∀ {ts : List TypeId} {K : List SV → Prop}, exR P ts K → ∃ rs, K rs ∧ ∀ g, clns g rs = true
  | [], K, h => ⟨[], h, fun _ => rfl⟩
  | t :: r, K, h => by
    obtain ⟨vs, h, _, h2⟩ := exl_ex h
    obtain ⟨rs, h3, h4⟩ := exR_ex h
    exact ⟨_, h3, fun g => by simp only [clns, cln_ofC g _ (h2 g), h4 g, Bool.and_true]⟩
def resS (rs : List SV) : SV := match rs with
  | [r] => r
  | rs => .tup (ofL rs)
theorem cln_resS {g : Nat → Bool} {rs : List SV} (h : clns g rs = true) : cln g (resS rs) = true := by
  unfold resS
  split
  · simp only [clns, Bool.and_eq_true] at h; exact h.1
  · show cln g (ofL _) = true
    rw [cln_ofL]; exact h
def tupT (P : Program) (t : TypeId) : List TypeId := match P.underlying t with
  | some (.tuple ts) => ts.toList
  | _ => [t]
def fnOk (P : Program) (f : FuncId) : Bool := match P.funcs[f]? with
  | some fn => !(fn.name == "runtime.NumGoroutine") && fn.body.isSome
  | none => false
theorem fnOk_run {P : Program} {f : FuncId} (h : fnOk P f = true) (args : Array Value) (w : World) : (callFunc f args).run P w = .ok (.enter f args) w := by
  unfold fnOk at h
  split at h
  · rename_i fn hf
    simp only [Bool.and_eq_true, Bool.not_eq_true'] at h
    have hb : fn.body ≠ none := by
      intro hq
      rw [hq] at h
      cases h.2
    have hn : fn.name ≠ "runtime.NumGoroutine" := by
      intro hq
      rw [hq] at h
      simp at h
    simp [callFunc, hf, hn, hb]
  · cases h
def resT (P : Program) (f : FuncId) : List TypeId := match P.funcs[f]? with
  | some fn => fn.resultTypes.toList
  | none => []

abbrev XT := World → World → Prop → Prop
section
variable {P : Program} {β : Nat → Nat} {st : St} {a : Act} {w w1 : World}
/-- the world goes on; own variables are told of -/
theorem Rep.next (hR : Rep β st a w) (hm : st.mv = false) (hb : allBd st.bx = true) {bx' : List Box} {ct' : Nat}
    (h : ∀ i b', nthB bx' i = some b' → b'.ok = true → ∃ b, nthB st.bx i = some b ∧ b.ok = true ∧ b'.blk = b.blk ∧ Blk w1 (β i) b'.ty (vals β b'.cells)) : Rep β { st with bx := bx', w0 := w1, ct := ct' } a w1 := by
  have key : ∀ i b, nthB st.bx i = some b → b.ok = true → b.blk = some (β i) := fun i b h1 h2 => by
    have := allBd_at hb i b h1 h2
    cases hk : b.blk with
    | none => rw [hk] at this; cases this
    | some k => rw [(hR.bx i b h1 h2).at_ k hk]
  refine ⟨hR.fr, fun i b' hb' ho => ?_, fun i j bi bj g1 g2 g3 g4 hij => ?_, Only.refl _ _, fun _ => rfl⟩
  · obtain ⟨b, h1, h2, h3, h4⟩ := h i b' hb' ho
    exact ⟨h4, fun k hk => by rw [h3, key i b h1 h2] at hk; simpa using hk, fun hk => by rw [h3, key i b h1 h2] at hk; cases hk⟩
  · obtain ⟨b, h1, h2, _⟩ := h i bi g1 g3
    obtain ⟨c, k1, k2, _⟩ := h j bj g2 g4
    exact hR.ne i j b c h1 k1 h2 k2 hij
theorem Rep.blkD (hR : Rep β st a w) (hb : allBd st.bx = true) {i : Nat} {b : Box} (h1 : nthB st.bx i = some b) (h2 : b.ok = true) : b.blk.getD 0 = β i := by
  have := allBd_at hb i b h1 h2
  cases hk : b.blk with
  | none => rw [hk] at this; cases this
  | some k => rw [(hR.bx i b h1 h2).at_ k hk]; rfl

/-- a call -/
def callP (P : Program) (X : XT) (st : St) (d : Option Tmp) (rts : List TypeId) (f : FuncId) (args : List SV) (extra : List Value) (K : St → Prop) : Prop :=
  bif clns st.clg args && allBd st.bx then
    Calls P f (vals st.bl args ++ extra).toArray st.w0 fun e w1 => exR P rts fun rs => e = .returned (val β0 (resS rs)) ∧
      sameB (sameL false st.bx) st.w0 w1 (trnB P w1 st.ct st.bx fun bx => X st.w0 w1 (K (St.put { st with bx := bx, w0 := w1, ct := st.ct + 1 } d (resS rs))))
  else False
theorem callP_ok {X : XT} {E : World → World → Prop} (hX : ∀ w0 w1 p, X w0 w1 p → p ∧ E w0 w1) {d : Option Tmp} {rts : List TypeId} {f : FuncId} {args : List SV} {extra : List Value} {K : St → Prop} (h : callP P X st d rts f args extra K) (hm : st.mv = false) (hR : Rep β st a w) :
    Calls P f (vals β args ++ extra).toArray w fun e w' => ∃ v, e = .returned v ∧ ∃ st', K st' ∧ Ext st st' ∧ E w w' ∧ Rep β st' (a.put d v) w' := by
  unfold callP at h
  obtain ⟨h0, h⟩ := bif_ok h
  simp only [Bool.and_eq_true] at h0
  rw [hR.valsE h0.1, ← hR.still hm] at h
  refine h.mono ?_
  rintro e w1 h
  obtain ⟨rs, ⟨rfl, h1⟩, hcl⟩ := exR_ex h
  clear h
  obtain ⟨h2, hS⟩ := sameB_ok h1
  obtain ⟨bx', h3, hb, hps⟩ := trnB_ok h2
  obtain ⟨h, hE⟩ := hX _ _ _ h3
  have ev : val β0 (resS rs) = val β (resS rs) := val_congr (g := fun _ => false) (fun i h => (by cases h)) _ (cln_resS (hcl _))
  refine ⟨_, rfl, _, h, ?_, hE, ?_⟩
  · refine Ext.trans (t := { st with bx := bx', w0 := w1, ct := st.ct + 1 }) ⟨rfl, Nat.le_succ _, fun _ _ _ h _ => h, fun i b' hb' ho hs => ?_, hps, dfr⟩ (Ext.put _ _ _)
    obtain ⟨b, h1, h2, h3, h4, h5⟩ := hb i b' hb'
    rcases h5 with ⟨rfl, _⟩ | ⟨h5, _⟩
    · exact ⟨b', h1, ho, rfl, rfl, rfl, fun _ h => h⟩
    · omega
  · rw [ev]
    refine Rep.put (Rep.next hR hm h0.2 fun i b' hb' ho => ?_) _ _
    obtain ⟨b, h1, h2, h3, h4, h5⟩ := hb i b' hb'
    have hbo : b.ok = true := by rw [← h2]; exact ho
    refine ⟨b, h1, hbo, h3, ?_⟩
    have eD := hR.blkD h0.2 h1 hbo
    rcases h5 with ⟨rfl, h6⟩ | ⟨_, h6, h7⟩
    · have hk := (hR.bx i b' h1 hbo).blk
      have hmem := sameL_mem (esc := false) h1 hbo (by rw [hbo] at h6; simpa using h6)
      rw [eD] at hmem
      exact (hS _ hmem).trans hk
    · rw [h4, h6 β, ← eD]; exact h7
def cat (a b : List Value) : List Value := a ++ b
/-- the same, with arguments that were bound ahead -/
def callQ (P : Program) (X : XT) (st : St) (d : Option Tmp) (rts : List TypeId) (f : FuncId) (fst : List Value) (args : List SV) (extra : List Value) (K : St → Prop) : Prop :=
  bif clns st.clg args && allBd st.bx then
    Calls P f (cat (cat fst (vals st.bl args)) extra).toArray st.w0 fun e w1 => exR P rts fun rs => e = .returned (val β0 (resS rs)) ∧
      sameB (sameL false st.bx) st.w0 w1 (trnB P w1 st.ct st.bx fun bx => X st.w0 w1 (K (St.put { st with bx := bx, w0 := w1, ct := st.ct + 1 } d (resS rs))))
  else False
theorem callQ_ok {X : XT} {E : World → World → Prop} (hX : ∀ w0 w1 p, X w0 w1 p → p ∧ E w0 w1) {d : Option Tmp} {rts : List TypeId} {f : FuncId} {fst : List Value} {args : List SV} {extra : List Value} {K : St → Prop} (h : callQ P X st d rts f fst args extra K) (hm : st.mv = false) (hR : Rep β st a w) :
    Calls P f (cat (cat fst (vals β args)) extra).toArray w fun e w' => ∃ v, e = .returned v ∧ ∃ st', K st' ∧ Ext st st' ∧ E w w' ∧ Rep β st' (a.put d v) w' := by
  unfold callQ at h
  obtain ⟨h0, h⟩ := bif_ok h
  simp only [Bool.and_eq_true] at h0
  rw [hR.valsE h0.1, ← hR.still hm] at h
  refine h.mono ?_
  rintro e w1 h
  obtain ⟨rs, ⟨rfl, h1⟩, hcl⟩ := exR_ex h
  clear h
  obtain ⟨h2, hS⟩ := sameB_ok h1
  obtain ⟨bx', h3, hb, hps⟩ := trnB_ok h2
  obtain ⟨h, hE⟩ := hX _ _ _ h3
  have ev : val β0 (resS rs) = val β (resS rs) := val_congr (g := fun _ => false) (fun i h => (by cases h)) _ (cln_resS (hcl _))
  refine ⟨_, rfl, _, h, ?_, hE, ?_⟩
  · refine Ext.trans (t := { st with bx := bx', w0 := w1, ct := st.ct + 1 }) ⟨rfl, Nat.le_succ _, fun _ _ _ h _ => h, fun i b' hb' ho hs => ?_, hps, dfr⟩ (Ext.put _ _ _)
    obtain ⟨b, h1, h2, h3, h4, h5⟩ := hb i b' hb'
    rcases h5 with ⟨rfl, _⟩ | ⟨h5, _⟩
    · exact ⟨b', h1, ho, rfl, rfl, rfl, fun _ h => h⟩
    · omega
  · rw [ev]
    refine Rep.put (Rep.next hR hm h0.2 fun i b' hb' ho => ?_) _ _
    obtain ⟨b, h1, h2, h3, h4, h5⟩ := hb i b' hb'
    have hbo : b.ok = true := by rw [← h2]; exact ho
    refine ⟨b, h1, hbo, h3, ?_⟩
    have eD := hR.blkD h0.2 h1 hbo
    rcases h5 with ⟨rfl, h6⟩ | ⟨_, h6, h7⟩
    · have hk := (hR.bx i b' h1 hbo).blk
      have hmem := sameL_mem (esc := false) h1 hbo (by rw [hbo] at h6; simpa using h6)
      rw [eD] at hmem
      exact (hS _ hmem).trans hk
    · rw [h4, h6 β, ← eD]; exact h7
/-- an operation told by its run alone -/
def rawP (P : Program) (X : XT) (st : St) (d : Option Tmp) (rts : List TypeId) (args : List SV) (run : List Value → Sem Value) (K : St → Prop) : Prop :=
  bif clns st.clg args && allBd st.bx then
    exR P rts fun rs => ∃ w1 : World, (run (vals st.bl args)).run P st.w0 = .ok (val β0 (resS rs)) w1 ∧ sameB (sameL true st.bx) st.w0 w1 (X st.w0 w1 (K (St.put { st with w0 := w1 } d (resS rs))))
  else False
theorem rawP_ok {X : XT} {E : World → World → Prop} (hX : ∀ w0 w1 p, X w0 w1 p → p ∧ E w0 w1) {d : Option Tmp} {rts : List TypeId} {args : List SV} {run : List Value → Sem Value} {K : St → Prop} (h : rawP P X st d rts args run K) (hm : st.mv = false) (hR : Rep β st a w) :
    ∃ v w', (run (vals β args)).run P w = .ok v w' ∧ ∃ st', K st' ∧ Ext st st' ∧ E w w' ∧ Rep β st' (a.put d v) w' := by
  unfold rawP at h
  obtain ⟨h0, h⟩ := bif_ok h
  simp only [Bool.and_eq_true] at h0
  rw [hR.valsE h0.1, ← hR.still hm] at h
  obtain ⟨rs, ⟨w1, hr, h⟩, hcl⟩ := exR_ex h
  obtain ⟨h, hS⟩ := sameB_ok h
  obtain ⟨h, hE⟩ := hX _ _ _ h
  have ev : val β0 (resS rs) = val β (resS rs) := val_congr (g := fun _ => false) (fun i h => (by cases h)) _ (cln_resS (hcl _))
  refine ⟨_, w1, hr, _, h, ?_, hE, ?_⟩
  · refine Ext.trans (t := { st with w0 := w1 }) ⟨rfl, Nat.le_refl _, fun _ _ _ h _ => h, fun i b' hb' ho hs => ⟨b', hb', ho, rfl, rfl, rfl, fun _ h => h⟩, psr, dfr⟩ (Ext.put _ _ _)
  · rw [ev]
    refine Rep.put (Rep.next (ct' := st.ct) hR hm h0.2 fun i b' hb' ho => ⟨b', hb', ho, rfl, ?_⟩) _ _
    have eD := hR.blkD h0.2 hb' ho
    have hmem := sameL_mem (esc := true) hb' ho rfl
    rw [eD] at hmem
    exact (hS _ hmem).trans (hR.bx i b' hb' ho).blk
/-- the same, nothing coming back -/
def rawU (P : Program) (X : XT) (st : St) (d : Option Tmp) (args : List SV) (run : List Value → Sem Unit) (K : St → Prop) : Prop :=
  bif clns st.clg args && allBd st.bx then
    ∃ w1 : World, (run (vals st.bl args)).run P st.w0 = .ok () w1 ∧ sameB (sameL true st.bx) st.w0 w1 (X st.w0 w1 (K (St.put { st with w0 := w1 } d .un)))
  else False
theorem rawU_ok {X : XT} {E : World → World → Prop} (hX : ∀ w0 w1 p, X w0 w1 p → p ∧ E w0 w1) {d : Option Tmp} {args : List SV} {run : List Value → Sem Unit} {K : St → Prop} (h : rawU P X st d args run K) (hm : st.mv = false) (hR : Rep β st a w) :
    ∃ w', (run (vals β args)).run P w = .ok () w' ∧ ∃ st', K st' ∧ Ext st st' ∧ E w w' ∧ Rep β st' (a.put d undef) w' := by
  unfold rawU at h
  obtain ⟨h0, h⟩ := bif_ok h
  simp only [Bool.and_eq_true] at h0
  rw [hR.valsE h0.1, ← hR.still hm] at h
  obtain ⟨w1, hr, h⟩ := h
  obtain ⟨h, hS⟩ := sameB_ok h
  obtain ⟨h, hE⟩ := hX _ _ _ h
  refine ⟨w1, hr, _, h, ?_, hE, ?_⟩
  · refine Ext.trans (t := { st with w0 := w1 }) ⟨rfl, Nat.le_refl _, fun _ _ _ h _ => h, fun i b' hb' ho hs => ⟨b', hb', ho, rfl, rfl, rfl, fun _ h => h⟩, psr, dfr⟩ (Ext.put _ _ _)
  · refine Rep.put (v := .un) (Rep.next (ct' := st.ct) hR hm h0.2 fun i b' hb' ho => ⟨b', hb', ho, rfl, ?_⟩) _
    have eD := hR.blkD h0.2 hb' ho
    have hmem := sameL_mem (esc := true) hb' ho rfl
    rw [eD] at hmem
    exact (hS _ hmem).trans (hR.bx i b' hb' ho).blk
end
end Go.Kt.V
