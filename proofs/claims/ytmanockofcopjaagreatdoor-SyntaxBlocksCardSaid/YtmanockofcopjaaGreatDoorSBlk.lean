/-
  Own work: an empty block is as none: two rows of tokens that differ there alone are read as the same chart, if both are charts. No program in sight.
-/
import Derived.Test.YtmanockofcopjaaGreatDoorSCut
namespace Go.Proofs.YtmanockofcopjaaGreatDoor.Con
open Go Go.RowKit Go.Kt Go.Kt.V
set_option linter.unusedSimpArgs false
set_option linter.unusedVariables false
set_option linter.unusedSectionVars false
set_option maxHeartbeats 4000000

def wGo : List UInt8 := [103, 111]
def wX : List UInt8 := [120]
/-- A: .. enter { } on go -> x ; .., B: .. on go { } -> x ; .. -/
structure Ct (A B : List Tk) (p : Nat) : Prop where
  ea : EndL A
  eb : EndL B
  la : p + 8 < A.length
  lb : B.length + 1 = A.length
  low : ∀ i, i < p → tk B i = tk A i
  high : ∀ i, p + 8 ≤ i → tk B (i - 1) = tk A i
  a : ∀ j q, ([(2, wEnter, 0), (4, [123], 0), (4, [125], 0), (2, wOn, 0), (1, wGo, 0), (4, [45, 62], 0), (1, wX, 0), (4, [59], 0)] : List K3)[j]? = some q → tk A (p + j) = ⟨q.1, q.2.1, q.2.2, 0⟩
  b : ∀ j q, ([(2, wOn, 0), (1, wGo, 0), (4, [123], 0), (4, [125], 0), (4, [45, 62], 0), (1, wX, 0), (4, [59], 0)] : List K3)[j]? = some q → tk B (p + j) = ⟨q.1, q.2.1, q.2.2, 0⟩
/-- places that match -/
def Mt (p i i' : Nat) : Prop := (i' = i ∧ i ≤ p) ∨ (p + 8 ≤ i ∧ i' + 1 = i)
section
variable {A B : List Tk} {p : Nat} (h : Ct A B p)
include h
theorem Ct.a0 : tk A p = ⟨2, wEnter, 0, 0⟩ := h.a 0 _ rfl
theorem Ct.b0 : tk B p = ⟨2, wOn, 0, 0⟩ := h.b 0 _ rfl
theorem Ct.look {i i' : Nat} (m : Mt p i i') : (tk B i' = tk A i ∧ Mt p (i + 1) (i' + 1)) ∨ (i = p ∧ i' = p) := by
  rcases m with ⟨rfl, m⟩ | ⟨m, e⟩
  · by_cases e : i' = p
    · exact .inr ⟨e, e⟩
    · exact .inl ⟨h.low _ (by omega), .inl ⟨rfl, by omega⟩⟩
  · have := h.high i m
    have e2 : i - 1 = i' := by omega
    rw [e2] at this
    exact .inl ⟨this, .inr ⟨by omega, by omega⟩⟩
/-! ## expressions -/
def EM (p : Nat) (r r' : Pr) : Prop := ∀ x j x' j', r = .ok (x, j) → r' = .ok (x', j') → x' = x ∧ Mt p j j'
theorem Ct.sg {i i' : Nat} (m : Mt p i i') {s : List UInt8} (hs : sg A i s = true ∨ sg B i' s = true) : tk B i' = tk A i ∧ Mt p (i + 1) (i' + 1) := by
  rcases h.look m with m | ⟨rfl, rfl⟩
  · exact m
  · exfalso
    rcases hs with hs | hs
    · unfold Con.sg at hs
      rw [h.a0] at hs
      simp at hs
    · unfold Con.sg at hs
      rw [h.b0] at hs
      simp at hs
theorem Ct.opf {i i' : Nat} (m : Mt p i i') (k : Int) : ∀ (f op : Nat), opFrom B k i' f op = opFrom A k i f op
  | 0, _ => rfl
  | f + 1, op => by
    have e : Con.sg B i' (opTx op) = Con.sg A i (opTx op) := by
      rcases h.look m with m | ⟨rfl, rfl⟩
      · unfold Con.sg; rw [m.1]
      · unfold Con.sg; rw [h.a0, h.b0]; rfl
    rw [opFrom, opFrom, e, Ct.opf m k f]
theorem EM.map {r r' : Pr} (k : EM p r r') (g : Ex → Ex) : EM p (mapR g r) (mapR g r') := by
  intro x j x' j' h1 h2
  obtain ⟨y, h3, rfl⟩ := mapR_ok h1
  obtain ⟨y', h4, rfl⟩ := mapR_ok h2
  obtain ⟨e, m⟩ := k _ _ _ _ h3 h4
  exact ⟨by rw [e], m⟩
theorem EM.and {r r' : Pr} {f f' : Ex → Nat → Pr} (k : EM p r r') (hf : ∀ x j j', r = .ok (x, j) → r' = .ok (x, j') → Mt p j j' → EM p (f x j) (f' x j')) : EM p (andR r f) (andR r' f') := by
  intro x j x' j' h1 h2
  obtain ⟨y, m, h3, h4⟩ := andR_ok h1
  obtain ⟨y', m', h5, h6⟩ := andR_ok h2
  obtain ⟨rfl, hm⟩ := k _ _ _ _ h3 h5
  exact hf _ _ _ h3 h5 hm _ _ _ _ h4 h6
theorem EM.nest {r r' : Pr} {d : Nat} {a a' : Int} (k : EM p r r') : EM p (nestR d a r) (nestR d a' r') := by
  intro x j x' j' h1 h2
  exact k _ _ _ _ (nestR_ok h1).1 (nestR_ok h2).1
theorem EM.par {r r' : Pr} (k : EM p r r') : EM p (parR A r) (parR B r') := by
  intro x j x' j' h1 h2
  obtain ⟨m, h3, h4, rfl⟩ := parR_ok h1
  obtain ⟨m', h5, h6, rfl⟩ := parR_ok h2
  obtain ⟨rfl, hm⟩ := k _ _ _ _ h3 h5
  exact ⟨rfl, (h.sg hm (.inl h4)).2⟩
theorem EM.err {e : Int × Int} {r' : Pr} : EM p (.error e) r' := by
  intro x j x' j' h1
  cases h1
theorem EM.in_ {i i' : Nat} (m : Mt p i i') (ht : tk B i' = tk A i) (m1 : Mt p (i + 1) (i' + 1)) : EM p (inR A i) (inR B i') := by
  intro x j x' j' h1 h2
  unfold inR at h1
  split at h1
  · rename_i a1
    obtain ⟨t1, m2⟩ := h.sg m1 (.inl a1)
    split at h1
    · rename_i a2
      have t2 : tk B (i' + 1 + 1) = tk A (i + 1 + 1) ∧ Mt p (i + 1 + 1 + 1) (i' + 1 + 1 + 1) := by
        rcases h.look m2 with m | ⟨e1, e2⟩
        · exact m
        · exfalso
          rw [show i + 2 = p from e1, h.a0] at a2
          exact absurd a2 (by decide)
      split at h1
      · rename_i a3
        obtain ⟨t3, m4⟩ := h.sg t2.2 (.inl a3)
        obtain ⟨e1, e2⟩ := inR_ok h2
        cases h1
        subst e1 e2
        refine ⟨?_, m4⟩
        rw [show tk B (i' + 2) = tk A (i + 2) from t2.1, ht]
      · cases h1
    · cases h1
  · cases h1
theorem EM.one {E0 One E0' One' : Nat → Pr} {d i i' : Nat} (hE : ∀ i i', Mt p i i' → EM p (E0 i) (E0' i')) (hO : ∀ i i', Mt p i i' → EM p (One i) (One' i')) (m : Mt p i i') : EM p (oneR A E0 One d i) (oneR B E0' One' d i') := by
  rcases h.look m with ⟨t, m1⟩ | ⟨rfl, rfl⟩
  · have hs : ∀ s, Con.sg B i' s = Con.sg A i s := fun s => by unfold Con.sg; rw [t]
    unfold oneR
    rw [hs, hs, hs, t]
    split
    · exact EM.map h (EM.nest h (hO _ _ m1)) _
    · split
      · exact EM.nest h (EM.par h (hE _ _ m1))
      · split
        · intro x j x' j' h1 h2
          cases h1
          cases h2
          exact ⟨rfl, m1⟩
        · split
          · intro x j x' j' h1 h2
            cases h1
            cases h2
            exact ⟨rfl, m1⟩
          · split
            · exact EM.in_ h m t m1
            · exact EM.err h
  · have : oneR A E0 One d i' = .error (wrongF A i') := by
      unfold oneR
      unfold Con.sg
      rw [h.a0]
      rfl
    rw [this]
    exact EM.err h
theorem EM.loop {E E' : Nat → Pr} {k : Int} (hm : ∀ i x j, E i = .ok (x, j) → i < j) (hm' : ∀ i x j, E' i = .ok (x, j) → i < j) (hE : ∀ i i', Mt p i i' → EM p (E i) (E' i')) : ∀ (g g' : Nat) (x : Ex) (j j' : Nat), Mt p j j' → A.length - j ≤ g → B.length - j' ≤ g' → EM p (loopR A E k g x j) (loopR B E' k g' x j') := by
  have hz : ∀ (g g' : Nat) (x : Ex) (j j' : Nat), Mt p j j' → opAt A k j = 0 → EM p (loopR A E k g x j) (loopR B E' k g' x j') := fun g g' x j j' m h0 => by
    have h0' : opAt B k j' = 0 := by unfold opAt at h0 ⊢; rw [h.opf m]; exact h0
    have l1 : loopR A E k g x j = .ok (x, j) := by
      cases g with
      | zero => rfl
      | succ g => rw [loopR, if_pos h0]
    have l2 : loopR B E' k g' x j' = .ok (x, j') := by
      cases g' with
      | zero => rfl
      | succ g' => rw [loopR, if_pos h0']
    rw [l1, l2]
    intro _ _ _ _ e1 e2
    cases e1
    cases e2
    exact ⟨rfl, m⟩
  have hout : ∀ (ts : List Tk) (j : Nat), ts.length ≤ j → opAt ts k j = 0 := fun ts j hj => by
    refine Decidable.byContradiction fun hne => opFrom_sg (ts := ts) (k := k) (i := j) 13 1 hne ?_
    unfold tk
    rw [List.getElem?_eq_none hj]
    rfl
  intro g
  induction g with
  | zero =>
    intro g' x j j' m h1 h2
    exact hz _ _ _ _ _ m (hout _ _ (by omega))
  | succ g ih =>
    intro g' x j j' m h1 h2
    by_cases h0 : opAt A k j = 0
    · exact hz _ _ _ _ _ m h0
    · have h0' : opAt B k j' = opAt A k j := h.opf m k 13 1
      cases g' with
      | zero =>
        have : opAt B k j' = 0 := hout _ _ (by omega)
        rw [h0'] at this
        exact absurd this h0
      | succ g' =>
        rw [loopR, loopR, h0', if_neg h0, if_neg h0]
        have m1 : Mt p (j + 1) (j' + 1) := by
          rcases h.look m with m | ⟨rfl, rfl⟩
          · exact m.2
          · exfalso
            refine h0 ?_
            have : ∀ f op, opFrom A k j' f op = 0 := by
              intro f
              induction f with
              | zero => intro op; rfl
              | succ f ihf =>
                intro op
                rw [opFrom, if_neg, ihf]
                rintro ⟨_, hs⟩
                unfold Con.sg at hs
                rw [h.a0] at hs
                simp at hs
            exact this 13 1
        refine EM.and h (hE _ _ m1) fun y q q' e1 e2 hq => ?_
        have l1 := hm _ _ _ e1
        have l2 := hm' _ _ _ e2
        exact ih g' _ _ _ hq (by omega) (by omega)
theorem EM.expr : ∀ (f k d i i' : Nat), Mt p i i' → EM p (exprR A f k d i) (exprR B f k d i')
  | 0, _, _, _, _, _ => EM.err h
  | f + 1, k, d, i, i', m => by
    rw [exprR, exprR]
    split
    · exact EM.one h (fun i i' m => EM.expr f 0 (d + 1) i i' m) (fun i i' m => EM.expr f 6 (d + 1) i i' m) m
    · refine EM.and h (EM.expr f (k + 1) d i i' m) fun x j j' e1 e2 hm => ?_
      exact EM.loop h (fun i x j e => exprR_mono _ _ _ _ e) (fun i x j e => exprR_mono _ _ _ _ e) (fun i i' m => EM.expr f (k + 1) d i i' m) _ _ _ _ _ hm (Nat.le_refl _) (Nat.le_refl _)
theorem Ct.parse {i i' : Nat} (m : Mt p i i') (h0 : (parseA A i).2.2.1 = 0) (h0' : (parseA B i').2.2.1 = 0) : (parseA B i').1 = (parseA A i).1 ∧ Mt p (parseA A i).2.1.toNat (parseA B i').2.1.toNat := by
  have k := EM.expr h (need 0 0) 0 0 i i' m
  unfold parseA parseR at h0 h0' ⊢
  simp only [Int.toNat_natCast] at h0 h0' ⊢
  split at h0
  · rename_i c1
    split at h0'
    · rename_i c2
      rw [if_pos c1, if_pos c2]
      cases e1 : exprR A (need 0 0) 0 0 i with
      | error e => rw [e1] at h0; exact absurd h0 (exprR_err _ _ _ _ e1)
      | ok q =>
        cases e2 : exprR B (need 0 0) 0 0 i' with
        | error e => rw [e2] at h0'; exact absurd h0' (exprR_err _ _ _ _ e2)
        | ok q' =>
          obtain ⟨x, j⟩ := q
          obtain ⟨x', j'⟩ := q'
          obtain ⟨e3, e4⟩ := k _ _ _ _ e1 e2
          exact ⟨e3, by simpa using e4⟩
    · cases h0'
  · cases h0
end
end Go.Proofs.YtmanockofcopjaaGreatDoor.Con
