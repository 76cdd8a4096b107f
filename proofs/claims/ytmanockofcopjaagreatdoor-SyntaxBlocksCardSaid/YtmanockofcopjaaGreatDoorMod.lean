
/-
  Own work: expressions as trees, and how they are read from tokens: the model. No program in sight but for the tokens' type.
-/
import Derived.Test.YtmanockofcopjaaGreatDoorCon4
namespace Go.Proofs.YtmanockofcopjaaGreatDoor.Con
open Go Go.RowKit Go.Kt Go.Kt.V
set_option linter.unusedSimpArgs false
set_option linter.unusedVariables false
set_option maxHeartbeats 4000000

inductive Ex where
  | mk (k n : Int) (s : List UInt8) (op : Int) (subs : List Ex) (a : Int)
def Ex.k : Ex → Int | .mk k _ _ _ _ _ => k
def Ex.n : Ex → Int | .mk _ n _ _ _ _ => n
def Ex.s : Ex → List UInt8 | .mk _ _ s _ _ _ => s
def Ex.op : Ex → Int | .mk _ _ _ op _ _ => op
def Ex.subs : Ex → List Ex | .mk _ _ _ _ l _ => l
def Ex.a : Ex → Int | .mk _ _ _ _ _ a => a

/-! ## tokens at places -/
def tk0 : Tk := ⟨5, [], 0, -1⟩
def tk (ts : List Tk) (i : Nat) : Tk := (ts[i]?).getD tk0
/-- a sign stands there -/
def sg (ts : List Tk) (i : Nat) (s : List UInt8) : Bool := (tk ts i).k == 4 && decide ((tk ts i).t = s)
def wrongF (ts : List Tk) (i : Nat) : Int × Int := (if (tk ts i).k = 5 then 3 else 4, (tk ts i).a)
theorem tk_at {ts : List Tk} {i : Nat} (h : i < ts.length) : ts[i]? = some (tk ts i) := by
  unfold tk
  rw [List.getElem?_eq_getElem h]
  rfl
/-- the end stands last, and there alone -/
def EndL (ts : List Tk) : Prop := ∀ i, i < ts.length → ((tk ts i).k = 5 ↔ i + 1 = ts.length)
theorem EndL.next {ts : List Tk} (h : EndL ts) {i : Nat} (hi : i < ts.length) (hk : (tk ts i).k ≠ 5) : i + 1 < ts.length := by
  have h2 : ¬ (i + 1 = ts.length) := fun e => hk ((h i hi).2 e)
  omega
theorem sg_k {ts : List Tk} {i : Nat} {s : List UInt8} (h : sg ts i s = true) : (tk ts i).k ≠ 5 := by
  simp only [sg, Bool.and_eq_true, beq_iff_eq] at h
  rw [h.1]
  decide

/-! ## operators -/
def opsL : List (List UInt8) := [[], [43], [45], [42], [47], [37], [60], [60, 61], [62], [62, 61], [61, 61], [33, 61], [38, 38], [124, 124], [45], [33]]
def rowOf (op : Int) : Int := if 3 ≤ op ∧ op ≤ 5 then 5 else if op = 1 ∨ op = 2 then 4 else if 6 ≤ op ∧ op ≤ 9 then 3 else if op = 10 ∨ op = 11 then 2 else if op = 12 then 1 else if op = 13 then 0 else 6
def opTx (op : Nat) : List UInt8 := (opsL[op]?).getD []
/-- the first operator of a row, from a number on, that stands there -/
def opFrom (ts : List Tk) (k : Int) (i : Nat) : Nat → Nat → Int
  | 0, _ => 0
  | f + 1, op => if rowOf (op : Int) = k ∧ sg ts i (opTx op) = true then (op : Int) else opFrom ts k i f (op + 1)
def opAt (ts : List Tk) (k : Int) (i : Nat) : Int := opFrom ts k i 13 1
theorem opFrom_sg {ts : List Tk} {k : Int} {i : Nat} : ∀ (f op : Nat), opFrom ts k i f op ≠ 0 → (tk ts i).k ≠ 5
  | 0, _, h => absurd rfl h
  | f + 1, op, h => by
    rw [opFrom] at h
    split at h
    · rename_i hc
      exact sg_k hc.2
    · exact opFrom_sg f _ h

/-! ## reading -/
abbrev Pr := Except (Int × Int) (Ex × Nat)
def mapR (g : Ex → Ex) : Pr → Pr
  | .error e => .error e
  | .ok (x, j) => .ok (g x, j)
def andR : Pr → (Ex → Nat → Pr) → Pr
  | .error e, _ => .error e
  | .ok (x, j), g => g x j
/-- behind '(': an expression, and ')' -/
def parR (ts : List Tk) : Pr → Pr
  | .error e => .error e
  | .ok (x, j) => if sg ts j [41] then .ok (x, j + 1) else .error (wrongF ts j)
/-- one level deeper -/
def nestR (d : Nat) (a : Int) (r : Pr) : Pr := if d = 20 then .error (21, a) else r
def inR (ts : List Tk) (i : Nat) : Pr :=
  if sg ts (i + 1) [40] then
    (if (tk ts (i + 2)).k = 1 then
      (if sg ts (i + 3) [41] then .ok (.mk 3 0 (tk ts (i + 2)).t 0 [] (tk ts i).a, i + 4) else .error (wrongF ts (i + 3)))
    else .error (wrongF ts (i + 2)))
  else .error (wrongF ts (i + 1))
def oneR (ts : List Tk) (E0 One : Nat → Pr) (d i : Nat) : Pr :=
  if (sg ts i [45] || sg ts i [33]) = true then mapR (fun x => .mk 4 0 [] (if (tk ts i).t = [33] then 15 else 14) [x] (tk ts i).a) (nestR d (tk ts i).a (One (i + 1)))
  else if sg ts i [40] = true then nestR d (tk ts i).a (parR ts (E0 (i + 1)))
  else if (tk ts i).k = 3 then .ok (.mk 1 (tk ts i).n [] 0 [] (tk ts i).a, i + 1)
  else if (tk ts i).k = 1 then .ok (.mk 2 0 (tk ts i).t 0 [] (tk ts i).a, i + 1)
  else if (tk ts i).k = 2 ∧ (tk ts i).t = [105, 110] then inR ts i
  else .error (wrongF ts i)
def loopR (ts : List Tk) (E : Nat → Pr) (k : Int) : Nat → Ex → Nat → Pr
  | 0, x, j => .ok (x, j)
  | g + 1, x, j => if opAt ts k j = 0 then .ok (x, j) else andR (E (j + 1)) fun y j' => loopR ts E k g (.mk 5 0 [] (opAt ts k j) [x, y] x.a) j'
/-- an expression of row k, d deep, from i on; so much fuel -/
def exprR (ts : List Tk) : Nat → Nat → Nat → Nat → Pr
  | 0, _, _, _ => .error (1, 0)
  | f + 1, k, d, i => if k = 6 then oneR ts (exprR ts f 0 (d + 1)) (exprR ts f 6 (d + 1)) d i else andR (exprR ts f (k + 1) d i) fun x j => loopR ts (exprR ts f (k + 1) d) (k : Int) (ts.length - j) x j
/-! ## the place moves on -/
theorem mapR_ok {g : Ex → Ex} {r : Pr} {x : Ex} {j : Nat} (h : mapR g r = .ok (x, j)) : ∃ y, r = .ok (y, j) ∧ x = g y := by
  cases r with
  | error e => cases h
  | ok q =>
    obtain ⟨y, j'⟩ := q
    simp only [mapR, Except.ok.injEq, Prod.mk.injEq] at h
    obtain ⟨rfl, rfl⟩ := h
    exact ⟨y, rfl, rfl⟩
theorem nestR_ok {d : Nat} {a : Int} {r : Pr} {q : Ex × Nat} (h : nestR d a r = .ok q) : r = .ok q ∧ d ≠ 20 := by
  unfold nestR at h
  split at h
  · cases h
  · exact ⟨h, by assumption⟩
theorem parR_ok {ts : List Tk} {r : Pr} {x : Ex} {j : Nat} (h : parR ts r = .ok (x, j)) : ∃ j', r = .ok (x, j') ∧ sg ts j' [41] = true ∧ j = j' + 1 := by
  cases r with
  | error e => cases h
  | ok q =>
    obtain ⟨y, j'⟩ := q
    simp only [parR] at h
    split at h
    · simp only [Except.ok.injEq, Prod.mk.injEq] at h
      obtain ⟨rfl, rfl⟩ := h
      exact ⟨j', rfl, by assumption, rfl⟩
    · cases h
theorem andR_ok {r : Pr} {g : Ex → Nat → Pr} {q : Ex × Nat} (h : andR r g = .ok q) : ∃ x j, r = .ok (x, j) ∧ g x j = .ok q := by
  cases r with
  | error e => cases h
  | ok p => exact ⟨p.1, p.2, rfl, h⟩
theorem inR_ok {ts : List Tk} {i : Nat} {x : Ex} {j : Nat} (h : inR ts i = .ok (x, j)) : j = i + 4 ∧ x = .mk 3 0 (tk ts (i + 2)).t 0 [] (tk ts i).a := by
  unfold inR at h
  split at h
  · split at h
    · split at h
      · simp only [Except.ok.injEq, Prod.mk.injEq] at h
        exact ⟨h.2.symm, h.1.symm⟩
      · cases h
    · cases h
  · cases h
theorem oneR_mono {ts : List Tk} {E0 One : Nat → Pr} {d i : Nat} {x : Ex} {j : Nat} (hE : ∀ i x j, E0 i = .ok (x, j) → i < j) (hO : ∀ i x j, One i = .ok (x, j) → i < j) (h : oneR ts E0 One d i = .ok (x, j)) : i < j := by
  unfold oneR at h
  split at h
  · obtain ⟨y, h1, _⟩ := mapR_ok h
    have := hO _ _ _ (nestR_ok h1).1
    omega
  · split at h
    · obtain ⟨j', h1, _, rfl⟩ := parR_ok (nestR_ok h).1
      have := hE _ _ _ h1
      omega
    · split at h
      · simp only [Except.ok.injEq, Prod.mk.injEq] at h; omega
      · split at h
        · simp only [Except.ok.injEq, Prod.mk.injEq] at h; omega
        · split at h
          · have := (inR_ok h).1; omega
          · cases h
theorem loopR_mono {ts : List Tk} {E : Nat → Pr} {k : Int} (hE : ∀ i x j, E i = .ok (x, j) → i < j) : ∀ (g : Nat) (x : Ex) (j : Nat) {x' : Ex} {j' : Nat}, loopR ts E k g x j = .ok (x', j') → j ≤ j'
  | 0, x, j, x', j', h => by
    simp only [loopR, Except.ok.injEq, Prod.mk.injEq] at h; omega
  | g + 1, x, j, x', j', h => by
    rw [loopR] at h
    split at h
    · simp only [Except.ok.injEq, Prod.mk.injEq] at h; omega
    · obtain ⟨y, m, h1, h2⟩ := andR_ok h
      have := hE _ _ _ h1
      have := loopR_mono hE g _ _ h2
      omega
theorem exprR_mono {ts : List Tk} : ∀ (f k d i : Nat) {x : Ex} {j : Nat}, exprR ts f k d i = .ok (x, j) → i < j
  | 0, _, _, _, _, _, h => by cases h
  | f + 1, k, d, i, x, j, h => by
    rw [exprR] at h
    split at h
    · exact oneR_mono (fun i x j h => exprR_mono f _ _ i h) (fun i x j h => exprR_mono f _ _ i h) h
    · obtain ⟨y, m, h1, h2⟩ := andR_ok h
      have := exprR_mono f _ _ _ h1
      have := loopR_mono (fun i x j h => exprR_mono f _ _ i h) _ _ _ h2
      omega
/-- so much is needed -/
def need (k d : Nat) : Nat := (20 - d) * 8 + (7 - k)
def parseR (ts : List Tk) (i : Nat) : Pr := exprR ts (need 0 0) 0 0 i
end Go.Proofs.YtmanockofcopjaaGreatDoor.Con
