
/-
  Own work: texts merged: SMod, SRep, STok, SCon, SCon2, SCon3, SCon4, SCon5, SCon6, SCon7, SCon8.
-/
import Derived.Test.YtmanockofcopjaaGreatDoorErr
import Derived.Test.YtmanockofcopjaaGreatDoorTree0
namespace Go.Proofs.YtmanockofcopjaaGreatDoor.Con
open Go Go.RowKit Go.Kt Go.Kt.V
set_option linter.unusedSimpArgs false
set_option linter.unusedVariables false
set_option maxHeartbeats 4000000

structure Ac where
  k : Int
  n : List UInt8
  x : Ex
  a : Int
structure Mv where
  k : Int
  ev : List UInt8
  wt : Int
  gd : Bool
  g : Ex
  acts : List Ac
  tg : List (List UInt8)
  a : Int
/-- a node but for its kids -/
structure Nb where
  k : Int
  nm : List UInt8
  ini : List UInt8
  dft : List UInt8
  en : List Ac
  lv : List Ac
  mv : List Mv
  a : Int
inductive Nd where
  | mk (b : Nb) (kids : List Nd)
def Nd.b : Nd → Nb | .mk b _ => b
def Nd.kids : Nd → List Nd | .mk _ l => l
structure Vr where
  n : List UInt8
  v : Int
  a : Int
structure Ch where
  vars : List Vr
  root : Nd
def nb0 : Nb := ⟨0, [], [], [], [], [], [], 0⟩
def nd0 : Nd := .mk nb0 []
def ch0 : Ch := ⟨[], nd0⟩
def tkZ : Tk := ⟨0, [], 0, 0⟩

/-- where a reader is: place, fault, room left -/
structure Sx where
  i : Nat
  fc : Int
  fa : Int
  v : Int
  n : Int
  d : Int
  m : Int
  a : Int
section
variable (ts : List Tk)
def stopS (s : Sx) (c : Int) : Sx := if s.fc = 0 then { s with fc := c, fa := (tk ts s.i).a } else s
def wrongS (s : Sx) : Sx := if (tk ts s.i).k = 5 then stopS ts (stopS ts s 3) 4 else stopS ts s 4
def ixS (c : List UInt8) : List (List UInt8) → Nat
  | [] => 0
  | x :: l => if c = x then 0 else ixS c l + 1
def whichS (s : Sx) (l : List (List UInt8)) : Nat :=
  if s.fc ≠ 0 ∨ ((tk ts s.i).k ≠ 2 ∧ (tk ts s.i).k ≠ 4) then 0 else if ixS (tk ts s.i).t l < l.length then ixS (tk ts s.i).t l + 1 else 0
def nextS (s : Sx) : Sx := { s with i := s.i + 1 }
def mustS (s : Sx) (x : List UInt8) : Sx := if whichS ts s [x] = 0 then wrongS ts s else nextS s
def kindS (s : Sx) (k : Int) : Tk × Sx := if s.fc ≠ 0 ∨ (tk ts s.i).k ≠ k then (tkZ, wrongS ts s) else (tk ts s.i, nextS s)
def nameS (s : Sx) : List UInt8 × Sx := ((kindS ts s 1).1.t, (kindS ts s 1).2)
def exprS (s : Sx) : Ex × Sx :=
  if s.fc ≠ 0 then (ex0, s)
  else if (parseA ts s.i).2.2.1 ≠ 0 then ((parseA ts s.i).1, { s with fc := (parseA ts s.i).2.2.1, fa := (parseA ts s.i).2.2.2 })
  else ((parseA ts s.i).1, { s with i := (parseA ts s.i).2.1.toNat })
def dec (x : Int) : Int := IntKind.wrap .i64 (x - 1)
def inc (x : Int) : Int := IntKind.wrap .i64 (x + 1)
def useA (s : Sx) : Sx := if s.a = 0 then { stopS ts s 2 with a := dec s.a } else { s with a := dec s.a }
def useM (s : Sx) : Sx := if s.m = 0 then { stopS ts s 2 with m := dec s.m } else { s with m := dec s.m }
def useN (s : Sx) : Sx := if s.n = 0 then { stopS ts s 2 with n := dec s.n } else { s with n := dec s.n }
def useV (s : Sx) : Sx := if s.v = 0 then { stopS ts s 2 with v := dec s.v } else { s with v := dec s.v }
def wSet : List UInt8 := [115, 101, 116]
def wRaise : List UInt8 := [114, 97, 105, 115, 101]
def wEmit : List UInt8 := [101, 109, 105, 116]
def wOn : List UInt8 := [111, 110]
def wAlways : List UInt8 := [97, 108, 119, 97, 121, 115]
def wAfter : List UInt8 := [97, 102, 116, 101, 114]
def wInitial : List UInt8 := [105, 110, 105, 116, 105, 97, 108]
def wEnter : List UInt8 := [101, 110, 116, 101, 114]
def wLeave : List UInt8 := [108, 101, 97, 118, 101]
def wState : List UInt8 := [115, 116, 97, 116, 101]
def wParallel : List UInt8 := [112, 97, 114, 97, 108, 108, 101, 108]
def wHistory : List UInt8 := [104, 105, 115, 116, 111, 114, 121]
def wDeep : List UInt8 := [100, 101, 101, 112]
def wChart : List UInt8 := [99, 104, 97, 114, 116]
def wVar : List UInt8 := [118, 97, 114]
/-- an act, behind its kind and name -/
def actT (s : Sx) (k : Nat) (n : List UInt8) (a : Int) : Ac × Sx :=
  if k = 2 then (⟨k, n, ex0, a⟩, mustS ts s [59])
  else (⟨k, n, (exprS ts (mustS ts s [61])).1, a⟩, mustS ts (exprS ts (mustS ts s [61])).2 [59])
def actS (s : Sx) : Ac × Sx :=
  if whichS ts s [wSet, wRaise, wEmit] = 0 then (⟨0, [], ex0, (tk ts s.i).a⟩, wrongS ts s)
  else if (useA ts s).fc ≠ 0 then (⟨(whichS ts s [wSet, wRaise, wEmit] : Nat), [], ex0, (tk ts s.i).a⟩, useA ts s)
  else actT ts (nameS ts (nextS (useA ts s))).2 (whichS ts s [wSet, wRaise, wEmit]) (nameS ts (nextS (useA ts s))).1 (tk ts s.i).a
def actsS : Nat → List Ac → Sx → List Ac × Sx
  | 0, acc, s => (acc, s)
  | f + 1, acc, s => if s.fc ≠ 0 then (acc, s) else if whichS ts s [[125]] ≠ 0 then (acc, nextS s) else actsS f (acc ++ [(actS ts s).1]) (actS ts s).2
def blockS (s : Sx) : List Ac × Sx := actsS ts (ts.length + 1) [] (mustS ts s [123])
def targS : Nat → List UInt8 → List (List UInt8) → Sx → List (List UInt8) × Sx
  | 0, _, acc, s => (acc, s)
  | f + 1, x, acc, s => if whichS ts s [x] = 0 then (acc, s) else targS f [44] (acc ++ [(nameS ts (nextS s)).1]) (nameS ts (nextS s)).2
/-- a move: behind its acts -/
def moveC (m : Mv) (s : Sx) : Mv × Sx :=
  ({ m with tg := (targS ts (ts.length + 1) [45, 62] [] s).1 }, mustS ts (targS ts (ts.length + 1) [45, 62] [] s).2 [59])
def moveB (m : Mv) (s : Sx) : Mv × Sx :=
  if whichS ts s [[123]] = 0 then moveC ts m s else moveC ts { m with acts := (blockS ts s).1 } (blockS ts s).2
def moveA (m : Mv) (s : Sx) : Mv × Sx :=
  if whichS ts s [[91]] = 0 then moveB ts m s else moveB ts { m with gd := true, g := (exprS ts (nextS s)).1 } (mustS ts (exprS ts (nextS s)).2 [93])
def mv0 (k a : Int) : Mv := ⟨k, [], 0, false, ex0, [], [], a⟩
def moveS (k : Int) (s : Sx) : Mv × Sx :=
  if (useM ts s).fc ≠ 0 then (mv0 k (tk ts s.i).a, useM ts s)
  else if k = 1 then moveA ts { mv0 k (tk ts s.i).a with ev := (nameS ts (nextS (useM ts s))).1 } (nameS ts (nextS (useM ts s))).2
  else if k = 3 then moveA ts { mv0 k (tk ts s.i).a with wt := (kindS ts (nextS (useM ts s)) 3).1.n } (kindS ts (nextS (useM ts s)) 3).2
  else moveA ts (mv0 k (tk ts s.i).a) (nextS (useM ts s))
structure Had where
  i : Bool
  e : Bool
  l : Bool
/-- a clause: is there one, the node, what it had, the reader -/
def clauseS (n : Nb) (h : Had) (s : Sx) : Bool × Nb × Had × Sx :=
  if whichS ts s [wOn, wAlways, wAfter] ≠ 0 then (true, { n with mv := n.mv ++ [(moveS ts (whichS ts s [wOn, wAlways, wAfter] : Nat) s).1] }, h, (moveS ts (whichS ts s [wOn, wAlways, wAfter] : Nat) s).2)
  else match whichS ts s [wInitial, wEnter, wLeave] with
    | 0 => (false, n, h, s)
    | 1 => if h.i then (false, n, h, wrongS ts s) else (true, { n with ini := (nameS ts (nextS s)).1 }, { h with i := true }, mustS ts (nameS ts (nextS s)).2 [59])
    | 2 => if h.e then (false, n, h, wrongS ts s) else (true, { n with en := (blockS ts (nextS s)).1 }, { h with e := true }, (blockS ts (nextS s)).2)
    | _ => if h.l then (false, n, h, wrongS ts s) else (true, { n with lv := (blockS ts (nextS s)).1 }, { h with l := true }, (blockS ts (nextS s)).2)
def clausesS : Nat → Nb → Had → Sx → Nb × Sx
  | 0, n, _, s => (n, s)
  | f + 1, n, h, s => if s.fc ≠ 0 then (n, s)
    else if (clauseS ts n h s).1 then clausesS f (clauseS ts n h s).2.1 (clauseS ts n h s).2.2.1 (clauseS ts n h s).2.2.2 else ((clauseS ts n h s).2.1, (clauseS ts n h s).2.2.2)
def wKinds : List (List UInt8) := [wState, wParallel, wHistory, wDeep]
def kidsS (N : Int → Sx → Nd × Sx) : Nat → List Nd → Sx → List Nd × Sx
  | 0, acc, s => (acc, s)
  | f + 1, acc, s => if whichS ts s wKinds = 0 then (acc, s) else kidsS N f (acc ++ [(N (whichS ts s wKinds : Nat) (nextS s)).1]) (N (whichS ts s wKinds : Nat) (nextS s)).2
def bodyS (N : Int → Sx → Nd × Sx) (n : Nb) (s : Sx) : Nd × Sx :=
  let c := clausesS ts (ts.length + 1) n ⟨false, false, false⟩ { s with d := dec s.d }
  let k := kidsS ts N (ts.length + 1) [] c.2
  (.mk c.1 k.1, mustS ts { k.2 with d := inc k.2.d } [125])
def roomS (s : Sx) : Sx := if (tk ts s.i).k = 1 then (if (useN ts s).d = 0 then stopS ts (useN ts s) 21 else useN ts s) else s
def namedS (k : Int) (s : Sx) : Nb × Sx := ({ nb0 with k := k, nm := (kindS ts (roomS ts s) 1).1.t, a := (kindS ts (roomS ts s) 1).1.a }, (kindS ts (roomS ts s) 1).2)
def nodeS : Nat → Int → Sx → Nd × Sx
  | 0, _, s => (nd0, s)
  | f + 1, k, s =>
    if 3 ≤ k then (.mk { (namedS ts k s).1 with dft := (nameS ts (mustS ts (namedS ts k s).2 [45, 62])).1 } [], mustS ts (nameS ts (mustS ts (namedS ts k s).2 [45, 62])).2 [59])
    else bodyS ts (nodeS f) (namedS ts k s).1 (mustS ts (namedS ts k s).2 [123])
def varS (s : Sx) : Vr × Sx :=
  let s1 := if (tk ts s.i).k = 1 then useV ts s else s
  let t := kindS ts s1 1
  let s2 := mustS ts t.2 [61]
  let g := whichS ts s2 [[45]]
  let q := kindS ts (if g = 0 then s2 else nextS s2) 3
  (⟨t.1.t, if g = 0 then q.1.n else IntKind.wrap .i64 (-q.1.n), t.1.a⟩, mustS ts q.2 [59])
def varsS : Nat → List Vr → Sx → List Vr × Sx
  | 0, acc, s => (acc, s)
  | f + 1, acc, s => if whichS ts s [wVar] = 0 then (acc, s) else varsS f (acc ++ [(varS ts (nextS s)).1]) (varS ts (nextS s)).2
def sx0 : Sx := ⟨0, 0, 0, 16, 64, 12, 200, 400⟩
def endS (s : Sx) : Sx := if s.fc = 0 ∧ (tk ts s.i).k ≠ 5 then wrongS ts s else s
def chartS : Ch × Sx :=
  let n := namedS ts 1 (mustS ts sx0 wChart)
  let v := varsS ts (ts.length + 1) [] (mustS ts n.2 [123])
  let b := bodyS ts (nodeS ts 14) n.1 v.2
  (⟨v.1, b.1⟩, endS ts b.2)
end
def parseC (l : List UInt8) : Ch × Int × Int :=
  if (tokensM l).2.1 ≠ 0 then (ch0, (tokensM l).2.1, (tokensM l).2.2)
  else if (chartS (tokensM l).1).2.fc ≠ 0 then (ch0, (chartS (tokensM l).1).2.fc, (chartS (tokensM l).1).2.fa)
  else ((chartS (tokensM l).1).1, 0, 0)

/-! ## the place moves on -/
/-- what is left to read -/
def mu (ts : List Tk) (s : Sx) : Nat := if s.fc = 0 then ts.length - s.i else 0
/-- within the tokens, and never back -/
structure On0 (ts : List Tk) (s s' : Sx) : Prop where
  lt : s.i < ts.length → s'.i < ts.length
  le : s'.fc = 0 → s.fc = 0 ∧ s.i ≤ s'.i
/-- and as deep as before -/
structure On (ts : List Tk) (s s' : Sx) : Prop extends On0 ts s s' where
  d : s'.d = s.d
section
variable {ts : List Tk} {s s' s'' : Sx}
theorem On.mk' (h : On0 ts s s') (k : s'.d = s.d) : On ts s s' := ⟨h, k⟩
theorem On0.refl (ts : List Tk) (s : Sx) : On0 ts s s := ⟨id, fun h => ⟨h, Nat.le_refl _⟩⟩
theorem On.refl (ts : List Tk) (s : Sx) : On ts s s := ⟨On0.refl ts s, rfl⟩
theorem On0.trans (h : On0 ts s s') (k : On0 ts s' s'') : On0 ts s s'' := ⟨fun x => k.lt (h.lt x), fun e => by
  obtain ⟨a, b⟩ := k.le e
  obtain ⟨c, d⟩ := h.le a
  exact ⟨c, Nat.le_trans d b⟩⟩
theorem On.trans (h : On ts s s') (k : On ts s' s'') : On ts s s'' := ⟨h.toOn0.trans k.toOn0, k.d.trans h.d⟩
theorem On0.mu (h : On0 ts s s') : mu ts s' ≤ mu ts s := by
  unfold Con.mu
  by_cases e : s'.fc = 0
  · obtain ⟨a, b⟩ := h.le e
    rw [if_pos e, if_pos a]; omega
  · rw [if_neg e]; exact Nat.zero_le _
theorem stop_on (c : Int) : On ts s (stopS ts s c) := by
  unfold stopS
  by_cases e : s.fc = 0
  · rw [if_pos e]; exact ⟨⟨id, fun _ => ⟨e, Nat.le_refl _⟩⟩, rfl⟩
  · rw [if_neg e]; exact On.refl _ _
theorem stop_fc {c : Int} (hc : c ≠ 0) : (stopS ts s c).fc ≠ 0 := by
  unfold stopS
  by_cases e : s.fc = 0
  · rw [if_pos e]; exact hc
  · rw [if_neg e]; exact e
theorem stop_i (c : Int) : (stopS ts s c).i = s.i := by
  unfold stopS
  split <;> rfl
theorem wrong_fc : (wrongS ts s).fc ≠ 0 := by
  unfold wrongS
  split <;> exact stop_fc (by decide)
theorem wrong_on : On ts s (wrongS ts s) := by
  unfold wrongS
  split
  · exact (stop_on 3).trans (stop_on 4)
  · exact stop_on 4
theorem which_le (l : List (List UInt8)) : whichS ts s l ≤ l.length := by
  unfold whichS
  split
  · exact Nat.zero_le _
  · split <;> omega
theorem which_ne {l : List (List UInt8)} (h : whichS ts s l ≠ 0) : s.fc = 0 ∧ (tk ts s.i).k ≠ 5 := by
  unfold whichS at h
  split at h
  · exact absurd rfl h
  · rename_i hc
    by_cases e : s.fc = 0
    · refine ⟨e, fun e5 => hc (.inr ?_)⟩
      rw [e5]
      exact ⟨by decide, by decide⟩
    · exact absurd (.inl e) hc
theorem next_on (hE : EndL ts) (h0 : s.fc = 0) (hk : (tk ts s.i).k ≠ 5) : On ts s (nextS s) := ⟨⟨fun h => hE.next h hk, fun _ => ⟨h0, Nat.le_succ _⟩⟩, rfl⟩
theorem must_on (hE : EndL ts) (x : List UInt8) : On ts s (mustS ts s x) := by
  unfold mustS
  by_cases h : whichS ts s [x] = 0
  · rw [if_pos h]; exact wrong_on
  · rw [if_neg h]; exact next_on hE (which_ne h).1 (which_ne h).2
theorem kind_on (hE : EndL ts) {k : Int} (hk : k ≠ 5) : On ts s (kindS ts s k).2 := by
  unfold kindS
  by_cases h : s.fc ≠ 0 ∨ (tk ts s.i).k ≠ k
  · rw [if_pos h]; exact wrong_on
  · rw [if_neg h]
    simp only [not_or, Decidable.not_not] at h
    exact next_on hE h.1 (by rw [h.2]; exact hk)
theorem name_on (hE : EndL ts) : On ts s (nameS ts s).2 := kind_on hE (by decide)
end
section
variable {ts : List Tk} (hE : EndL ts)
include hE
theorem inR_lt {i : Nat} {x : Ex} {j : Nat} (hi : i < ts.length) (hk : (tk ts i).k ≠ 5) (h : inR ts i = .ok (x, j)) : j < ts.length := by
  unfold inR at h
  split at h
  · rename_i h1
    have l1 := hE.next hi hk
    have l2 := hE.next l1 (sg_k h1)
    split at h
    · rename_i h2
      have l3 := hE.next l2 (by rw [h2]; decide)
      split at h
      · rename_i h3
        have l4 := hE.next l3 (sg_k h3)
        simp only [Except.ok.injEq, Prod.mk.injEq] at h
        omega
      · cases h
    · cases h
  · cases h
theorem oneR_lt {E0 One : Nat → Pr} {d i : Nat} {x : Ex} {j : Nat} (hE0 : ∀ i x j, i < ts.length → E0 i = .ok (x, j) → j < ts.length) (hO : ∀ i x j, i < ts.length → One i = .ok (x, j) → j < ts.length) (hi : i < ts.length) (h : oneR ts E0 One d i = .ok (x, j)) : j < ts.length := by
  unfold oneR at h
  split at h
  · rename_i hs
    obtain ⟨y, h1, _⟩ := mapR_ok h
    refine hO _ _ _ (hE.next hi ?_) (nestR_ok h1).1
    rcases Bool.or_eq_true _ _ ▸ hs with hs | hs <;> exact sg_k hs
  · split at h
    · rename_i hs
      obtain ⟨j', h1, h2, rfl⟩ := parR_ok (nestR_ok h).1
      exact hE.next (hE0 _ _ _ (hE.next hi (sg_k hs)) h1) (sg_k h2)
    · split at h
      · rename_i hk
        simp only [Except.ok.injEq, Prod.mk.injEq] at h
        have := hE.next hi (by rw [hk]; decide)
        omega
      · split at h
        · rename_i hk
          simp only [Except.ok.injEq, Prod.mk.injEq] at h
          have := hE.next hi (by rw [hk]; decide)
          omega
        · split at h
          · rename_i hk
            exact inR_lt hE hi (by rw [hk.1]; decide) h
          · cases h
theorem loopR_lt {E : Nat → Pr} {k : Int} (hE' : ∀ i x j, i < ts.length → E i = .ok (x, j) → j < ts.length) : ∀ (g : Nat) (x : Ex) (j : Nat) {x' : Ex} {j' : Nat}, j < ts.length → loopR ts E k g x j = .ok (x', j') → j' < ts.length
  | 0, x, j, x', j', hj, h => by
    simp only [loopR, Except.ok.injEq, Prod.mk.injEq] at h; omega
  | g + 1, x, j, x', j', hj, h => by
    rw [loopR] at h
    split at h
    · simp only [Except.ok.injEq, Prod.mk.injEq] at h; omega
    · rename_i ho
      obtain ⟨y, m, h1, h2⟩ := andR_ok h
      exact loopR_lt hE' g _ _ (hE' _ _ _ (hE.next hj (opFrom_sg _ _ ho)) h1) h2
theorem exprR_lt : ∀ (f k d i : Nat) {x : Ex} {j : Nat}, i < ts.length → exprR ts f k d i = .ok (x, j) → j < ts.length
  | 0, _, _, _, _, _, _, h => by cases h
  | f + 1, k, d, i, x, j, hi, h => by
    rw [exprR] at h
    split at h
    · exact oneR_lt hE (fun i x j hi h => exprR_lt f _ _ i hi h) (fun i x j hi h => exprR_lt f _ _ i hi h) hi h
    · obtain ⟨y, m, h1, h2⟩ := andR_ok h
      exact loopR_lt hE (fun i x j hi h => exprR_lt f _ _ i hi h) _ _ _ (exprR_lt f _ _ _ hi h1) h2
theorem parseA_on {i : Nat} (h0 : (parseA ts i).2.2.1 = 0) : ∃ j : Nat, (parseA ts i).2.1 = (j : Int) ∧ i < j ∧ j < ts.length := by
  unfold parseA at h0 ⊢
  split at h0
  · rename_i hc
    rw [if_pos hc]
    have hi : i < ts.length := by have := hc.2.1; omega
    rw [Int.toNat_natCast] at h0 ⊢
    unfold parseR at h0 ⊢
    cases he : exprR ts (need 0 0) 0 0 i with
    | error e =>
      rw [he] at h0
      obtain ⟨c, p⟩ := e
      exact absurd h0 (exprR_err _ _ _ _ he)
    | ok q =>
      obtain ⟨x, j⟩ := q
      exact ⟨j, rfl, exprR_mono _ _ _ _ he, exprR_lt hE _ _ _ _ hi he⟩
  · cases h0
/-- a step: nothing was wrong, and the place is further on, or all is wrong -/
theorem next_mu {s s' : Sx} (h0 : s.fc = 0) (hi : s.i < ts.length) (hk : (tk ts s.i).k ≠ 5) (h : On0 ts (nextS s) s') : mu ts s' < mu ts s := by
  have h1 := h.mu
  have h2 := hE.next hi hk
  have e1 : mu ts s = ts.length - s.i := by unfold mu; rw [if_pos h0]
  have e2 : mu ts (nextS s) = ts.length - (s.i + 1) := by unfold mu nextS; rw [if_pos h0]
  omega
set_option linter.unusedSectionVars false in
theorem bad_mu {s s' : Sx} (h0 : s.fc = 0) (hi : s.i < ts.length) (h : s'.fc ≠ 0) : mu ts s' < mu ts s := by
  unfold mu
  rw [if_neg h, if_pos h0]
  omega
theorem expr_on (s : Sx) : On ts s (exprS ts s).2 := by
  unfold exprS
  by_cases h0 : s.fc ≠ 0
  · rw [if_pos h0]; exact On.refl _ _
  · rw [if_neg h0]
    by_cases h1 : (parseA ts s.i).2.2.1 ≠ 0
    · rw [if_pos h1]; exact ⟨⟨id, fun h => absurd h h1⟩, rfl⟩
    · rw [if_neg h1]
      obtain ⟨j, e, l1, l2⟩ := parseA_on hE (i := s.i) (by simpa using h1)
      dsimp only
      rw [e, Int.toNat_natCast]
      exact ⟨⟨fun _ => l2, fun h => ⟨h, Nat.le_of_lt l1⟩⟩, rfl⟩
omit hE in
theorem useA_on (s : Sx) : On ts s (useA ts s) := by
  unfold useA
  split
  · have h := stop_on (ts := ts) (s := s) 2
    exact ⟨⟨h.lt, h.le⟩, h.d⟩
  · exact ⟨⟨id, fun h => ⟨h, Nat.le_refl _⟩⟩, rfl⟩
omit hE in
theorem useM_on (s : Sx) : On ts s (useM ts s) := by
  unfold useM
  split
  · have h := stop_on (ts := ts) (s := s) 2
    exact ⟨⟨h.lt, h.le⟩, h.d⟩
  · exact ⟨⟨id, fun h => ⟨h, Nat.le_refl _⟩⟩, rfl⟩
omit hE in
theorem useN_on (s : Sx) : On ts s (useN ts s) := by
  unfold useN
  split
  · have h := stop_on (ts := ts) (s := s) 2
    exact ⟨⟨h.lt, h.le⟩, h.d⟩
  · exact ⟨⟨id, fun h => ⟨h, Nat.le_refl _⟩⟩, rfl⟩
omit hE in
theorem useV_on (s : Sx) : On ts s (useV ts s) := by
  unfold useV
  split
  · have h := stop_on (ts := ts) (s := s) 2
    exact ⟨⟨h.lt, h.le⟩, h.d⟩
  · exact ⟨⟨id, fun h => ⟨h, Nat.le_refl _⟩⟩, rfl⟩
omit hE in
theorem useA_i (s : Sx) : (useA ts s).i = s.i := by
  unfold useA
  split
  · exact stop_i 2
  · rfl
omit hE in
theorem useM_i (s : Sx) : (useM ts s).i = s.i := by
  unfold useM
  split
  · exact stop_i 2
  · rfl
theorem actT_on (s : Sx) (k : Nat) (n : List UInt8) (a : Int) : On ts s (actT ts s k n a).2 := by
  unfold actT
  split
  · exact must_on hE _
  · exact ((must_on hE _).trans (expr_on hE _)).trans (must_on hE _)
/-- behind a word that was used up -/
theorem behind (s u : Sx) (hu : On ts s u) (hi : u.i = s.i) (h0 : u.fc = 0) (hk : (tk ts s.i).k ≠ 5) : On ts s (nextS u) := hu.trans (next_on hE h0 (by rw [hi]; exact hk))
theorem act_on (s : Sx) : On ts s (actS ts s).2 := by
  unfold actS
  split
  · exact wrong_on
  · rename_i h
    split
    · exact useA_on s
    · rename_i h0
      exact (behind hE s _ (useA_on s) (useA_i s) (by simpa using h0) (which_ne h).2).trans ((name_on hE).trans (actT_on hE _ _ _ _))
theorem act_mu {s : Sx} (h0 : s.fc = 0) (hi : s.i < ts.length) : mu ts (actS ts s).2 < mu ts s := by
  unfold actS
  split
  · exact bad_mu hE h0 hi wrong_fc
  · rename_i h
    split
    · rename_i h1
      exact bad_mu hE h0 hi h1
    · rename_i h1
      have e := useA_i (ts := ts) s
      have hm := (useA_on (ts := ts) s).mu
      exact Nat.lt_of_lt_of_le (next_mu hE (by simpa using h1) (by rw [e]; exact hi) (by rw [e]; exact (which_ne h).2) ((name_on hE).trans (actT_on hE _ _ _ _)).toOn0) hm
theorem acts_on : ∀ (f : Nat) (acc : List Ac) (s : Sx), On ts s (actsS ts f acc s).2
  | 0, _, s => On.refl _ _
  | f + 1, acc, s => by
    rw [actsS]
    split
    · exact On.refl _ _
    · split
      · rename_i h
        exact next_on hE (which_ne h).1 (which_ne h).2
      · exact (act_on hE s).trans (acts_on f _ _)
theorem block_on (s : Sx) : On ts s (blockS ts s).2 := (must_on hE _).trans (acts_on hE _ _ _)
theorem targ_on : ∀ (f : Nat) (x : List UInt8) (acc : List (List UInt8)) (s : Sx), On ts s (targS ts f x acc s).2
  | 0, _, _, s => On.refl _ _
  | f + 1, x, acc, s => by
    rw [targS]
    split
    · exact On.refl _ _
    · rename_i h
      exact ((next_on hE (which_ne h).1 (which_ne h).2).trans (name_on hE)).trans (targ_on f _ _ _)
theorem moveC_on (m : Mv) (s : Sx) : On ts s (moveC ts m s).2 := (targ_on hE _ _ _ _).trans (must_on hE _)
theorem moveB_on (m : Mv) (s : Sx) : On ts s (moveB ts m s).2 := by
  unfold moveB
  split
  · exact moveC_on hE _ _
  · exact (block_on hE _).trans (moveC_on hE _ _)
theorem moveA_on (m : Mv) (s : Sx) : On ts s (moveA ts m s).2 := by
  unfold moveA
  split
  · exact moveB_on hE _ _
  · rename_i h
    exact (((next_on hE (which_ne h).1 (which_ne h).2).trans (expr_on hE _)).trans (must_on hE _)).trans (moveB_on hE _ _)
/-- from behind a move's word -/
theorem moveN_on (k : Int) (s u : Sx) (m : Mv) : On ts u (if k = 1 then moveA ts { m with ev := (nameS ts u).1 } (nameS ts u).2 else if k = 3 then moveA ts { m with wt := (kindS ts u 3).1.n } (kindS ts u 3).2 else moveA ts m u).2 := by
  split
  · exact (name_on hE).trans (moveA_on hE _ _)
  · split
    · exact (kind_on hE (by decide)).trans (moveA_on hE _ _)
    · exact moveA_on hE _ _
theorem move_on (k : Int) (s : Sx) (hk : (tk ts s.i).k ≠ 5) : On ts s (moveS ts k s).2 := by
  unfold moveS
  split
  · exact useM_on s
  · rename_i h1
    exact (behind hE s _ (useM_on s) (useM_i s) (by simpa using h1) hk).trans (moveN_on hE k s _ _)
theorem move_mu (k : Int) {s : Sx} (h0 : s.fc = 0) (hi : s.i < ts.length) (hk : (tk ts s.i).k ≠ 5) : mu ts (moveS ts k s).2 < mu ts s := by
  unfold moveS
  split
  · rename_i h1
    exact bad_mu hE h0 hi h1
  · rename_i h1
    have e := useM_i (ts := ts) s
    have hm := (useM_on (ts := ts) s).mu
    exact Nat.lt_of_lt_of_le (next_mu hE (by simpa using h1) (by rw [e]; exact hi) (by rw [e]; exact hk) (moveN_on hE k s _ _).toOn0) hm
theorem clause_on (n : Nb) (h : Had) (s : Sx) : On ts s (clauseS ts n h s).2.2.2 := by
  unfold clauseS
  split
  · rename_i hw
    exact move_on hE _ s (which_ne hw).2
  · split
    · exact On.refl _ _
    · rename_i hw
      have hw : whichS ts s [wInitial, wEnter, wLeave] ≠ 0 := by rw [hw]; decide
      split
      · exact wrong_on
      · exact ((next_on hE (which_ne hw).1 (which_ne hw).2).trans (name_on hE)).trans (must_on hE _)
    · rename_i hw
      have hw : whichS ts s [wInitial, wEnter, wLeave] ≠ 0 := by rw [hw]; decide
      split
      · exact wrong_on
      · exact (next_on hE (which_ne hw).1 (which_ne hw).2).trans (block_on hE _)
    · rename_i h0 h1 h2
      have hw : whichS ts s [wInitial, wEnter, wLeave] ≠ 0 := h0
      split
      · exact wrong_on
      · exact (next_on hE (which_ne hw).1 (which_ne hw).2).trans (block_on hE _)
theorem clause_mu (n : Nb) (h : Had) {s : Sx} (h0 : s.fc = 0) (hi : s.i < ts.length) (ht : (clauseS ts n h s).1 = true) : mu ts (clauseS ts n h s).2.2.2 < mu ts s := by
  unfold clauseS at ht ⊢
  split
  · rename_i hw
    exact move_mu hE _ h0 hi (which_ne hw).2
  · rename_i hw0
    rw [if_neg hw0] at ht
    split
    · rename_i hw
      rw [hw] at ht
      cases ht
    · rename_i hw
      rw [hw] at ht
      have hw : whichS ts s [wInitial, wEnter, wLeave] ≠ 0 := by rw [hw]; decide
      split
      · exact bad_mu hE h0 hi wrong_fc
      · exact next_mu hE h0 hi (which_ne hw).2 ((name_on hE).trans (must_on hE _)).toOn0
    · rename_i hw
      have hw : whichS ts s [wInitial, wEnter, wLeave] ≠ 0 := by rw [hw]; decide
      split
      · exact bad_mu hE h0 hi wrong_fc
      · exact next_mu hE h0 hi (which_ne hw).2 (block_on hE _).toOn0
    · rename_i h1 _ _
      have hw : whichS ts s [wInitial, wEnter, wLeave] ≠ 0 := h1
      split
      · exact bad_mu hE h0 hi wrong_fc
      · exact next_mu hE h0 hi (which_ne hw).2 (block_on hE _).toOn0
theorem clauses_on : ∀ (f : Nat) (n : Nb) (h : Had) (s : Sx), On ts s (clausesS ts f n h s).2
  | 0, _, _, s => On.refl _ _
  | f + 1, n, h, s => by
    rw [clausesS]
    split
    · exact On.refl _ _
    · split
      · exact (clause_on hE n h s).trans (clauses_on f _ _ _)
      · exact clause_on hE n h s
theorem kids_on {N : Int → Sx → Nd × Sx} (d : Int) (hN : ∀ k s, s.d = d → s.fc = 0 → On ts s (N k s).2) : ∀ (f : Nat) (acc : List Nd) (s : Sx), s.d = d → On ts s (kidsS ts N f acc s).2
  | 0, _, s, _ => On.refl _ _
  | f + 1, acc, s, hd => by
    rw [kidsS]
    split
    · exact On.refl _ _
    · rename_i h
      have h1 := (next_on hE (which_ne h).1 (which_ne h).2).trans (hN (whichS ts s wKinds : Nat) (nextS s) hd (which_ne h).1)
      exact h1.trans (kids_on d hN f _ _ (h1.d.trans hd))
theorem body_on {N : Int → Sx → Nd × Sx} {n : Nb} {s : Sx} (hd : InI s.d) (hN : ∀ k u, u.d = dec s.d → u.fc = 0 → On ts u (N k u).2) : On ts s (bodyS ts N n s).2 := by
  unfold bodyS
  dsimp only
  have h1 := clauses_on hE (ts.length + 1) n ⟨false, false, false⟩ { s with d := dec s.d }
  have h2 := kids_on hE (dec s.d) hN (ts.length + 1) [] _ h1.d
  have h3 := h1.trans h2
  have h4 := must_on hE [125] (s := { (kidsS ts N (ts.length + 1) [] (clausesS ts (ts.length + 1) n ⟨false, false, false⟩ { s with d := dec s.d }).2).2 with d := inc (kidsS ts N (ts.length + 1) [] (clausesS ts (ts.length + 1) n ⟨false, false, false⟩ { s with d := dec s.d }).2).2.d })
  refine ⟨⟨fun h => h4.lt (h3.lt h), fun e => ?_⟩, h4.d.trans ?_⟩
  · obtain ⟨a, b⟩ := h4.le e
    obtain ⟨c, d⟩ := h3.le a
    exact ⟨c, Nat.le_trans d b⟩
  · dsimp only
    rw [h3.d]
    dsimp only
    unfold inc dec
    have := hd.1
    have := hd.2
    simp only [IntKind.wrap_i64]
    omega
omit hE in
theorem room_on (s : Sx) : On ts s (roomS ts s) := by
  unfold roomS
  split
  · split
    · exact (useN_on s).trans (stop_on _)
    · exact useN_on s
  · exact On.refl _ _
theorem named_on (k : Int) (s : Sx) : On ts s (namedS ts k s).2 := (room_on s).trans (kind_on hE (by decide))
omit hE in
/-- at no depth nothing is named -/
theorem named_d {k : Int} {s : Sx} (h : (namedS ts k s).2.fc = 0) : s.d ≠ 0 := fun e => by
  revert h
  unfold namedS kindS
  dsimp only
  by_cases h1 : (tk ts s.i).k = 1
  · have hf : (roomS ts s).fc ≠ 0 := by
      unfold roomS
      rw [if_pos h1, if_pos ((useN_on s).d.trans e)]
      exact stop_fc (by decide)
    rw [if_pos (.inl hf)]
    exact wrong_fc
  · have e2 : roomS ts s = s := by unfold roomS; rw [if_neg h1]
    rw [e2, if_pos (.inr h1)]
    exact wrong_fc
theorem node_on : ∀ (f : Nat) (k : Int) (s : Sx), InI s.d → On ts s (nodeS ts f k s).2
  | 0, _, s, _ => On.refl _ _
  | f + 1, k, s, hd => by
    rw [nodeS]
    have h1 := named_on hE k s
    split
    · exact ((h1.trans (must_on hE _)).trans (name_on hE)).trans (must_on hE _)
    · have h2 := h1.trans (must_on hE [123])
      refine h2.trans (body_on hE (by rw [h2.d]; exact hd) fun k u hu _ => node_on f k u ?_)
      rw [hu]
      exact wrapIn _
theorem var_on (s : Sx) : On ts s (varS ts s).2 := by
  unfold varS
  dsimp only
  have h1 : On ts s (if (tk ts s.i).k = 1 then useV ts s else s) := by
    split
    · exact useV_on s
    · exact On.refl _ _
  have h2 : ∀ u : Sx, On ts u (if whichS ts u [[45]] = 0 then u else nextS u) := fun u => by
    split
    · exact On.refl _ _
    · rename_i h; exact next_on hE (which_ne h).1 (which_ne h).2
  exact ((((h1.trans (kind_on hE (by decide))).trans (must_on hE _)).trans (h2 _)).trans (kind_on hE (by decide))).trans (must_on hE _)
theorem vars_on : ∀ (f : Nat) (acc : List Vr) (s : Sx), On ts s (varsS ts f acc s).2
  | 0, _, s => On.refl _ _
  | f + 1, acc, s => by
    rw [varsS]
    split
    · exact On.refl _ _
    · rename_i h
      exact ((next_on hE (which_ne h).1 (which_ne h).2).trans (var_on hE _)).trans (vars_on f _ _)
end
end Go.Proofs.YtmanockofcopjaaGreatDoor.Con

namespace Go.Proofs.YtmanockofcopjaaGreatDoor.Con
open Go Go.RowKit Go.Kt Go.Kt.V
set_option linter.unusedSimpArgs false
set_option linter.unusedVariables false
set_option maxHeartbeats 4000000

/-- the row's block is a row of such elements, from its start on -/
def Mk (w : World) (F : Nat → Prop) (e : TypeId) (size : Nat) (s : Sl) : Prop := s.n = 0 ∨ ∃ g cs, s.a = some ⟨g, 0, none⟩ ∧ F g ∧ Blk w g e cs ∧ s.n * size ≤ cs.length
/-- a row; made, if t -/
def SlG {α : Type} (t : Bool) (r : Rp α) (size : Nat) (e : TypeId) (w : World) (F : Nat → Prop) (s : Sl) (xs : List α) : Prop := SliceF r size w F s xs ∧ (t = true → Mk w F e size s)
section
variable {α : Type} {t : Bool} {r q : Rp α} {size : Nat} {e : TypeId} {w w' : World} {F G : Nat → Prop} {s : Sl} {xs : List α} {B : Nat}
theorem Mk.keep (h : Mk w F e size s) (hk : ∀ k, F k → k < w.heap.size → w'.heap[k]? = w.heap[k]?) : Mk w' F e size s := by
  rcases h with h | ⟨g, cs, h1, h2, h3, h4⟩
  · exact .inl h
  · exact .inr ⟨g, cs, h1, h2, (hk g h2 h3.lt).trans h3, h4⟩
theorem Mk.mono (h : Mk w F e size s) (hk : ∀ k, F k → k < w.heap.size → G k) : Mk w G e size s := by
  rcases h with h | ⟨g, cs, h1, h2, h3, h4⟩
  · exact .inl h
  · exact .inr ⟨g, cs, h1, hk g h2 h3.lt, h3, h4⟩
theorem SlG.keep (hr : r.Ok) (h : SlG t r size e w F s xs) (hs : 0 < size) (hk : ∀ k, F k → k < w.heap.size → w'.heap[k]? = w.heap[k]?) : SlG t r size e w' F s xs := ⟨h.1.keep hr hs hk, fun x => (h.2 x).keep hk⟩
theorem SlG.inHeap (hr : r.Ok) (h : SlG t r size e w F s xs) (hs : 0 < size) : SlG t r size e w (fun k => F k ∧ k < w.heap.size) s xs := ⟨h.1.inHeap hr hs, fun x => (h.2 x).mono fun k a b => ⟨a, b⟩⟩
theorem SlG.mono (hr : r.Ok) (h : SlG t r size e w F s xs) (hk : ∀ k, F k → G k) : SlG t r size e w G s xs := ⟨h.1.mono hr hk, fun x => (h.2 x).mono fun k a _ => hk k a⟩
theorem SlG.nil (t : Bool) (r : Rp α) (size : Nat) (e : TypeId) (w : World) (F : Nat → Prop) : SlG t r size e w F Sl.nil [] := ⟨SliceF.nil _ _ _ _, fun _ => .inl rfl⟩
theorem SlG.imp (h : SlG t r size e w F s xs) (hi : ∀ x cs, x ∈ xs → r w F x cs → q w F x cs) : SlG t q size e w F s xs := ⟨slImp h.1 hi, h.2⟩
theorem SlG.off (h : SlG t r size e w F s xs) (hi : ∀ x cs, x ∈ xs → r w F x cs → q w F x cs) : SlG false q size e w F s xs := ⟨slImp h.1 hi, fun h => (by cases h)⟩
theorem _root_.Go.Kt.Own.sl (hr : r.Ok) (h : Own r size e B w F s xs) (hF : ∀ k, B ≤ k → F k) : SlG true r size e w F s xs := by
  refine ⟨(h.slice hr).mono hr fun k hk => hk.elim id fun x => hF k x.1, fun _ => ?_⟩
  rcases h with ⟨rfl, rfl⟩ | ⟨g, css, tail, h1, h2, h4, h5, h6, h7, h9, h8⟩
  · exact .inl rfl
  · exact .inr ⟨g, _, h1, hF g h2, h4, by rw [List.length_append, Els.flen h8, ← h6]; omega⟩
end

/-! ## expressions -/
def rXg (t : Bool) : Nat → Rp Ex
  | 0 => fun _ _ _ _ => False
  | d + 1 => fun w F x cs => ∃ sl : Sl, cs = exv x.k x.n x.s x.op sl x.a ∧ SlG t (rXg t d) 6 24 w F sl x.subs
theorem rXg_ok (t : Bool) : ∀ d, (rXg t d).Ok
  | 0 => ⟨fun h _ => h.elim, fun h => h.elim, fun h _ => h.elim, fun h => h.elim⟩
  | d + 1 => ⟨fun ⟨sl, h1, h2⟩ hk => ⟨sl, h1, SlG.keep (rXg_ok t d) h2 (by decide) hk⟩, fun ⟨sl, h1, h2⟩ => ⟨sl, h1, SlG.inHeap (rXg_ok t d) h2 (by decide)⟩, fun ⟨sl, h1, h2⟩ hk => ⟨sl, h1, SlG.mono (rXg_ok t d) h2 hk⟩, fun ⟨sl, h1, h2⟩ => by
    subst h1
    intro v hv
    simp only [List.mem_cons, List.not_mem_nil, or_false] at hv
    rcases hv with rfl | rfl | rfl | rfl | rfl | rfl <;> rfl⟩
theorem rXg_up {t : Bool} {w : World} {F : Nat → Prop} : ∀ {d : Nat} {x : Ex} {cs : List Value}, rXg t d w F x cs → rXg t (d + 1) w F x cs
  | 0, _, _, h => h.elim
  | d + 1, x, cs, ⟨sl, h1, h2⟩ => ⟨sl, h1, h2.imp fun x cs _ h => rXg_up h⟩
theorem rXg_le {t : Bool} {w : World} {F : Nat → Prop} {d e : Nat} {x : Ex} {cs : List Value} (h : d ≤ e) (hx : rXg t d w F x cs) : rXg t e w F x cs := by
  induction e with
  | zero => have : d = 0 := by omega
            subst this; exact hx
  | succ e ih =>
    by_cases he : d = e + 1
    · subst he; exact hx
    · exact rXg_up (ih (by omega))
theorem rXg_ex {t : Bool} {w : World} {F : Nat → Prop} : ∀ {d : Nat} {x : Ex} {cs : List Value}, rXg t d w F x cs → rEx d w F x cs
  | 0, _, _, h => h.elim
  | d + 1, x, cs, ⟨sl, h1, h2⟩ => ⟨sl, h1, slImp h2.1 fun x cs _ h => rXg_ex h⟩
theorem rEx_xg {w : World} {F : Nat → Prop} : ∀ {d : Nat} {x : Ex} {cs : List Value}, rEx d w F x cs → rXg false d w F x cs
  | 0, _, _, h => h.elim
  | d + 1, x, cs, ⟨sl, h1, h2⟩ => ⟨sl, h1, slImp h2 fun x cs _ h => rEx_xg h, fun h => (by cases h)⟩
theorem RXN.xg {w : World} {x : Ex} {cs : List Value} {N : Nat → Prop} {lo hi : Nat} (h : RXN w N lo hi x cs) : ∃ d, rXg true d w (fun k => lo ≤ k ∧ k < hi) x cs := by
  induction h with
  | leaf lo hi k n s op a => exact ⟨1, Sl.nil, rfl, SlG.nil _ _ _ _ _ _⟩
  | one lo m g hi k n s op a x cs h1 h2 h3 h4 hn h5 ih =>
    obtain ⟨d, ih⟩ := ih
    obtain ⟨sl, hcs, _⟩ := h1.cells
    refine ⟨d + 1, _, rfl, ⟨rfl, Nat.le_refl _, fun h => (by cases h), (by decide : (1 : Nat) ≤ 9223372036854775807), fun j y hj => ?_⟩, fun _ => .inr ⟨g, cs, rfl, ⟨h2, h4⟩, h5, by rw [hcs]; exact Nat.le_refl _⟩⟩
    have hj0 : j = 0 := by
      have := (List.getElem?_eq_some_iff.1 hj).1
      simp only [Ex.subs, List.length_singleton] at this
      omega
    subst hj0
    simp only [Ex.subs, List.getElem?_cons_zero, Option.some.injEq] at hj
    subst hj
    exact ⟨⟨g, 0, none⟩, cs, rfl, ⟨h2, h4⟩, by rw [hcs]; rfl, by rw [Nat.zero_mul]; exact h5.cells 0 cs fun j v hv => by rw [Nat.zero_add]; exact hv, (rXg_ok true d).mono ih fun k hk => ⟨hk.1, by omega⟩⟩
  | two lo m m' m2 g hi k n s op a x y cs ds h1 h2 h3 h4 h5 h6 h7 h8 hn h9 ih1 ih2 =>
    obtain ⟨d1, ih1⟩ := ih1
    obtain ⟨d2, ih2⟩ := ih2
    obtain ⟨sl, hcs, _⟩ := h1.cells
    obtain ⟨sl2, hds, _⟩ := h3.cells
    have e1 : cs.length = 6 := by rw [hcs]; rfl
    have e2 : ds.length = 6 := by rw [hds]; rfl
    refine ⟨max d1 d2 + 1, _, rfl, ⟨rfl, Nat.le_refl _, fun h => (by cases h), (by decide : (2 : Nat) ≤ 9223372036854775807), fun j y hj => ?_⟩, fun _ => .inr ⟨g, cs ++ ds, rfl, ⟨by omega, h8⟩, h9, by rw [List.length_append, e1, e2]; exact Nat.le_refl _⟩⟩
    rcases j with _ | _ | j
    · simp only [Ex.subs, List.getElem?_cons_zero, Option.some.injEq] at hj
      subst hj
      exact ⟨⟨g, 0, none⟩, cs, rfl, ⟨by dsimp only; omega, h8⟩, e1, by rw [Nat.zero_mul]; exact h9.cells 0 cs fun j v hv => by rw [Nat.zero_add, List.getElem?_append_left (List.getElem?_eq_some_iff.1 hv).1]; exact hv, (rXg_ok true _).mono (rXg_le (Nat.le_max_left _ _) ih1) fun k hk => ⟨hk.1, by omega⟩⟩
    · simp only [Ex.subs, List.getElem?_cons_succ, List.getElem?_cons_zero, Option.some.injEq] at hj
      subst hj
      exact ⟨⟨g, 0, none⟩, ds, rfl, ⟨by dsimp only; omega, h8⟩, e2, by
        rw [addr_lit]
        exact h9.cells 6 ds fun j v hv => by rw [List.getElem?_append_right (by omega), e1, Nat.add_sub_cancel_left]; exact hv, (rXg_ok true _).mono (rXg_le (Nat.le_max_right _ _) ih2) fun k hk => ⟨by omega, by omega⟩⟩
    · simp [Ex.subs] at hj
/-- an expression, however deep -/
def rE (t : Bool) : Rp Ex := fun w F x cs => ∃ d, rXg t d w F x cs
theorem rE_ok (t : Bool) : (rE t).Ok := ⟨fun ⟨d, h⟩ hk => ⟨d, (rXg_ok t d).keep h hk⟩, fun ⟨d, h⟩ => ⟨d, (rXg_ok t d).inHeap h⟩, fun ⟨d, h⟩ hk => ⟨d, (rXg_ok t d).mono h hk⟩, fun ⟨d, h⟩ => (rXg_ok t d).one h⟩
theorem rE_cells {t : Bool} {w : World} {F : Nat → Prop} {x : Ex} {cs : List Value} (h : rE t w F x cs) : ∃ sl, cs = exv x.k x.n x.s x.op sl x.a := by
  obtain ⟨d, h⟩ := h
  cases d with
  | zero => exact h.elim
  | succ d => obtain ⟨sl, h, _⟩ := h; exact ⟨sl, h⟩
theorem rE_off {t : Bool} {w : World} {F : Nat → Prop} {x : Ex} {cs : List Value} (h : rE t w F x cs) : rE false w F x cs := by
  obtain ⟨d, h⟩ := h
  exact ⟨d, rEx_xg (rXg_ex h)⟩
theorem rE0 (t : Bool) (w : World) (F : Nat → Prop) : rE t w F ex0 (exv 0 0 [] 0 Sl.nil 0) := ⟨1, Sl.nil, rfl, SlG.nil _ _ _ _ _ _⟩

/-! ## acts, moves, variables -/
def acv (k : Int) (n : List UInt8) (xc : List Value) (a : Int) : List Value := .int .i64 k :: .string (T n) :: (xc ++ [.int .i64 a])
def rAc (t : Bool) : Rp Ac := fun w F x cs => ∃ xc, cs = acv x.k x.n xc x.a ∧ rE t w F x.x xc
theorem rAc_ok (t : Bool) : (rAc t).Ok := ⟨fun ⟨c, h1, h2⟩ hk => ⟨c, h1, (rE_ok t).keep h2 hk⟩, fun ⟨c, h1, h2⟩ => ⟨c, h1, (rE_ok t).inHeap h2⟩, fun ⟨c, h1, h2⟩ hk => ⟨c, h1, (rE_ok t).mono h2 hk⟩, fun ⟨c, h1, h2⟩ => by
    subst h1
    intro v hv
    simp only [acv, List.mem_cons, List.mem_append, List.not_mem_nil, or_false] at hv
    rcases hv with rfl | rfl | h | rfl
    · rfl
    · rfl
    · exact (rE_ok t).one h2 v h
    · rfl⟩
def mvv (k : Int) (ev : List UInt8) (wt : Int) (gd : Bool) (gc : List Value) (asl tg : Sl) (a : Int) : List Value := .int .i64 k :: .string (T ev) :: .int .i64 wt :: .bool gd :: (gc ++ [asl.v, tg.v, .int .i64 a])
def rMv (t : Bool) : Rp Mv := fun w F x cs => ∃ gc asl tg, cs = mvv x.k x.ev x.wt x.gd gc asl tg x.a ∧ rE t w F x.g gc ∧ SlG t (rAc t) 9 158 w F asl x.acts ∧ SlG t rTx 1 9 w F tg x.tg
theorem rMv_ok (t : Bool) : (rMv t).Ok := ⟨fun ⟨c, asl, tg, h1, h2, h3, h4⟩ hk => ⟨c, asl, tg, h1, (rE_ok t).keep h2 hk, h3.keep (rAc_ok t) (by decide) hk, h4.keep rTx_ok (by decide) hk⟩,
  fun ⟨c, asl, tg, h1, h2, h3, h4⟩ => ⟨c, asl, tg, h1, (rE_ok t).inHeap h2, h3.inHeap (rAc_ok t) (by decide), h4.inHeap rTx_ok (by decide)⟩,
  fun ⟨c, asl, tg, h1, h2, h3, h4⟩ hk => ⟨c, asl, tg, h1, (rE_ok t).mono h2 hk, h3.mono (rAc_ok t) hk, h4.mono rTx_ok hk⟩,
  fun ⟨c, asl, tg, h1, h2, h3, h4⟩ => by
    subst h1
    intro v hv
    simp only [mvv, List.mem_cons, List.mem_append, List.not_mem_nil, or_false] at hv
    rcases hv with rfl | rfl | rfl | rfl | h | rfl | rfl | rfl
    · rfl
    · rfl
    · rfl
    · rfl
    · exact (rE_ok t).one h2 v h
    · rfl
    · rfl
    · rfl⟩
def rVr : Rp Vr := fun _ _ x cs => cs = [.string (T x.n), .int .i64 x.v, .int .i64 x.a]
theorem rVr_ok : rVr.Ok := ⟨fun h _ => h, fun h => h, fun h _ => h, fun h => by
    unfold rVr at h
    subst h
    intro v hv
    simp only [List.mem_cons, List.not_mem_nil, or_false] at hv
    rcases hv with rfl | rfl | rfl <;> rfl⟩

/-! ## nodes -/
abbrev ndv (k : Int) (nm ini dft : List UInt8) (en lv mv kids : Sl) (a : Int) : List Value := [.int .i64 k, .string (T nm), .string (T ini), .string (T dft), en.v, lv.v, mv.v, kids.v, .int .i64 a]
/-- a node but for its kids -/
def NbR (t : Bool) (w : World) (F : Nat → Prop) (x : Nb) (en lv mv : Sl) : Prop := SlG t (rAc t) 9 158 w F en x.en ∧ SlG t (rAc t) 9 158 w F lv x.lv ∧ SlG t (rMv t) 13 75 w F mv x.mv
def rNd (t : Bool) : Nat → Rp Nd
  | 0 => fun _ _ _ _ => False
  | d + 1 => fun w F x cs => ∃ en lv mv kids : Sl, cs = ndv x.b.k x.b.nm x.b.ini x.b.dft en lv mv kids x.b.a ∧ NbR t w F x.b en lv mv ∧ SlG t (rNd t d) 9 45 w F kids x.kids
section
variable {t : Bool} {w w' : World} {F G : Nat → Prop} {x : Nb} {en lv mv : Sl}
theorem NbR.keep (h : NbR t w F x en lv mv) (hk : ∀ k, F k → k < w.heap.size → w'.heap[k]? = w.heap[k]?) : NbR t w' F x en lv mv := ⟨h.1.keep (rAc_ok t) (by decide) hk, h.2.1.keep (rAc_ok t) (by decide) hk, h.2.2.keep (rMv_ok t) (by decide) hk⟩
theorem NbR.inHeap (h : NbR t w F x en lv mv) : NbR t w (fun k => F k ∧ k < w.heap.size) x en lv mv := ⟨h.1.inHeap (rAc_ok t) (by decide), h.2.1.inHeap (rAc_ok t) (by decide), h.2.2.inHeap (rMv_ok t) (by decide)⟩
theorem NbR.mono (h : NbR t w F x en lv mv) (hk : ∀ k, F k → G k) : NbR t w G x en lv mv := ⟨h.1.mono (rAc_ok t) hk, h.2.1.mono (rAc_ok t) hk, h.2.2.mono (rMv_ok t) hk⟩
end
theorem rNd_ok (t : Bool) : ∀ d, (rNd t d).Ok
  | 0 => ⟨fun h _ => h.elim, fun h => h.elim, fun h _ => h.elim, fun h => h.elim⟩
  | d + 1 => ⟨fun ⟨en, lv, mv, kids, h1, h2, h3⟩ hk => ⟨en, lv, mv, kids, h1, h2.keep hk, SlG.keep (rNd_ok t d) h3 (by decide) hk⟩,
    fun ⟨en, lv, mv, kids, h1, h2, h3⟩ => ⟨en, lv, mv, kids, h1, h2.inHeap, SlG.inHeap (rNd_ok t d) h3 (by decide)⟩,
    fun ⟨en, lv, mv, kids, h1, h2, h3⟩ hk => ⟨en, lv, mv, kids, h1, h2.mono hk, SlG.mono (rNd_ok t d) h3 hk⟩, fun ⟨en, lv, mv, kids, h1, h2, h3⟩ => by
    subst h1
    intro v hv
    simp only [List.mem_cons, List.not_mem_nil, or_false] at hv
    rcases hv with rfl | rfl | rfl | rfl | rfl | rfl | rfl | rfl | rfl <;> rfl⟩
theorem rAc_off {t : Bool} {w : World} {F : Nat → Prop} {x : Ac} {cs : List Value} (h : rAc t w F x cs) : rAc false w F x cs := by
  obtain ⟨c, h1, h2⟩ := h
  exact ⟨c, h1, rE_off h2⟩
theorem rMv_off {t : Bool} {w : World} {F : Nat → Prop} {x : Mv} {cs : List Value} (h : rMv t w F x cs) : rMv false w F x cs := by
  obtain ⟨c, asl, tg, h1, h2, h3, h4⟩ := h
  exact ⟨c, asl, tg, h1, rE_off h2, h3.off fun _ _ _ h => rAc_off h, h4.off fun _ _ _ h => h⟩
theorem NbR.off {t : Bool} {w : World} {F : Nat → Prop} {x : Nb} {en lv mv : Sl} (h : NbR t w F x en lv mv) : NbR false w F x en lv mv := ⟨h.1.off fun _ _ _ h => rAc_off h, h.2.1.off fun _ _ _ h => rAc_off h, h.2.2.off fun _ _ _ h => rMv_off h⟩
theorem rNd_off {t : Bool} {w : World} {F : Nat → Prop} : ∀ {d : Nat} {x : Nd} {cs : List Value}, rNd t d w F x cs → rNd false d w F x cs
  | 0, _, _, h => h.elim
  | d + 1, x, cs, ⟨en, lv, mv, kids, h1, h2, h3⟩ => ⟨en, lv, mv, kids, h1, h2.off, h3.off fun x cs _ h => rNd_off h⟩

/-! ## charts: the variables, the root -/
structure ChR (t : Bool) (d : Nat) (w : World) (F : Nat → Prop) (c : Ch) (vs : Sl) (cs : List Value) : Prop where
  vars : SlG t rVr 3 73 w F vs c.vars
  root : rNd t d w F c.root cs

/-! ## a row grows -/
/-- all that was made from B on -/
abbrev Fr (B : Nat) : Nat → Prop := fun k => B ≤ k
section
variable {α : Type} {r : Rp α} {size : Nat} {e : TypeId} {w w' : World} {s : Sl} {xs : List α} {B : Nat}
/-- such a row, while other blocks turn that came later -/
theorem _root_.Go.Kt.Own.stay (hr : r.Ok) (h : Own r size e B w (Fr B) s xs) {bs : List Nat} (hO : Only bs w w') (hb : ∀ x, x ∈ bs → x < B ∨ w.heap.size ≤ x) : Own r size e B w' (Fr B) s xs := by
  refine ((h.inHeap hr).keep hr fun k hk hlt => hO.block k hlt fun hm => ?_).mono hr fun k hk => hk.1
  have hk' : B ≤ k ∧ k < w.heap.size := by
    rcases hk with hk | hk
    · exact hk
    · exact ⟨hk.1, hlt⟩
  rcases hb k hm with h | h <;> omega
/-- a row's own block is of the heap, and what came later is not it -/
theorem _root_.Go.Kt.Own.new (h : Own r size e B w (Fr B) s xs) {k : Nat} (hk : w.heap.size ≤ k) : s.a ≠ some ⟨k, 0, none⟩ := fun e => by
  have := (h.blk e).2
  dsimp only at this
  omega
end
end Go.Proofs.YtmanockofcopjaaGreatDoor.Con

namespace Go.Proofs.YtmanockofcopjaaGreatDoor.Con
open Go Go.RowKit Go.Kt Go.Kt.V
set_option linter.unusedSimpArgs false
set_option linter.unusedVariables false
set_option maxHeartbeats 4000000

def Tk.Good (t : Tk) : Prop := (t.k = 2 → ∃ c r, t.t = c :: r ∧ wordB c = true) ∧ (t.k = 4 → ∃ c r, t.t = c :: r ∧ wordB c = false) ∧ 0 ≤ t.n ∧ t.n ≤ 9223372036854775807
theorem tok_good {m : List UInt8} {q : Tq} (h : tokR m = .ok q) : q.1 ≠ 5 ∧ ∀ a, Tk.Good ⟨q.1, q.2.1, q.2.2.1, a⟩ := by
  cases m with
  | nil => cases h
  | cons c r =>
    simp only [tokR] at h
    split at h
    · rename_i hc
      unfold wordR at h
      split at h
      · cases h
      · injection h with h
        subst h
        have hw : wordB c = true := by unfold wordB; rw [hc]; rfl
        refine ⟨by dsimp only; split <;> decide, fun a => ⟨fun _ => ?_, fun h4 => ?_, by dsimp only; decide, by dsimp only; decide⟩⟩
        · dsimp only
          rw [List.takeWhile_cons, if_pos hw]
          exact ⟨c, _, rfl, hw⟩
        · dsimp only at h4
          split at h4 <;> exact absurd h4 (by decide)
    · rename_i hl
      split at h
      · rename_i hc
        unfold numR at h
        split at h
        · cases h
        · split at h
          · cases h
          · injection h with h
            subst h
            refine ⟨by dsimp only; decide, fun a => ⟨fun h => absurd h (by dsimp only; decide), fun h => absurd h (by dsimp only; decide), by dsimp only; omega, ?_⟩⟩
            dsimp only
            unfold parseM
            split
            · dsimp only; decide
            · split
              · dsimp only; decide
              · split
                · dsimp only; omega
                · dsimp only; decide
      · rename_i hd
        unfold signR at h
        split at h
        · cases h
        · rename_i hs
          injection h with h
          subst h
          refine ⟨by dsimp only; decide, fun a => ⟨fun h => absurd h (by dsimp only; decide), fun _ => ?_, by dsimp only; decide, by dsimp only; decide⟩⟩
          obtain ⟨n, hn⟩ : ∃ n, signN (c :: r) = n + 1 := ⟨signN (c :: r) - 1, by omega⟩
          dsimp only
          rw [hn, List.take_succ_cons]
          refine ⟨c, _, rfl, ?_⟩
          unfold wordB
          rw [Bool.or_eq_false_iff]
          exact ⟨by simpa using hl, by simpa using hd⟩
theorem toks_all {l : List UInt8} : ∀ (n i : Nat), i ≤ l.length → l.length - i ≤ n → ∀ r, toks l i = .ok r → ∃ (fr : List Tk) (a : Int), r = fr ++ [⟨5, [], 0, a⟩] ∧ (∀ t, t ∈ fr → t.k ≠ 5 ∧ t.Good) ∧ r.length ≤ l.length - i + 1
  | n, i, hi, hn, r, h => by
    rw [toks_step hi] at h
    split at h
    · injection h with h
      exact ⟨[], _, h.symm, fun t ht => (by cases ht), by rw [← h, List.length_singleton]; omega⟩
    · split at h
      · cases h
      · rename_i q hq
        have q1 := tok_len hq
        have q2 := tok_le hq
        rw [List.length_drop] at q2
        split at h
        · cases h
        · rename_i r' hr'
          injection h with h
          subst h
          match n, hn with
          | 0, hn => omega
          | n + 1, hn =>
            obtain ⟨fr, a, e, hf, hl⟩ := toks_all n _ (by omega) (by omega) _ hr'
            have hg := tok_good hq
            refine ⟨_ :: fr, a, by rw [e]; rfl, fun t ht => ?_, by rw [List.length_cons]; omega⟩
            rcases List.mem_cons.1 ht with rfl | ht
            · exact ⟨hg.1, hg.2 _⟩
            · exact hf t ht
theorem endL_of {fr : List Tk} {a : Int} (h : ∀ t, t ∈ fr → t.k ≠ 5) : EndL (fr ++ [⟨5, [], 0, a⟩]) := fun i hi => by
  rw [List.length_append, List.length_singleton] at hi
  unfold tk
  by_cases hl : i < fr.length
  · rw [List.getElem?_append_left hl, List.getElem?_eq_getElem hl, Option.getD_some, List.length_append, List.length_singleton]
    exact ⟨fun e => absurd e (h _ (List.getElem_mem hl)), fun e => by omega⟩
  · have e : i = fr.length := by omega
    subst e
    rw [List.getElem?_append_right (Nat.le_refl _), Nat.sub_self, List.length_append, List.length_singleton]
    exact ⟨fun _ => rfl, fun _ => rfl⟩
theorem toks_er {l : List UInt8} : ∀ (n i : Nat), i ≤ l.length → l.length - i ≤ n → ∀ x, toks l i = .error x → x.1 ≠ 0
  | n, i, hi, hn, x, h => by
    rw [toks_step hi] at h
    split at h
    · cases h
    · split at h
      · rename_i e hq
        injection h with h
        subst h
        exact tok_err hq
      · rename_i q hq
        have q1 := tok_len hq
        have q2 := tok_le hq
        rw [List.length_drop] at q2
        split at h
        · rename_i y hy
          injection h with h
          subst h
          match n, hn with
          | 0, hn => omega
          | n + 1, hn => exact toks_er n _ (by omega) (by omega) _ hy
        · cases h
theorem tokensM_ok {l : List UInt8} (h : (tokensM l).2.1 = 0) : EndL (tokensM l).1 ∧ (∀ t, t ∈ (tokensM l).1 → t.Good) ∧ 0 < (tokensM l).1.length ∧ (tokensM l).1.length ≤ 16385 := by
  unfold tokensM at h ⊢
  split at h
  · cases h
  · rename_i hl
    rw [if_neg hl]
    cases hr : toks l 0 with
    | error x =>
      rw [hr] at h
      exact absurd h (toks_er l.length 0 (Nat.zero_le _) (by omega) _ hr)
    | ok r =>
      obtain ⟨fr, a, e, hf, hn⟩ := toks_all l.length 0 (Nat.zero_le _) (by omega) r hr
      dsimp only
      subst e
      refine ⟨endL_of fun t ht => (hf t ht).1, fun t ht => ?_, by rw [List.length_append, List.length_singleton]; omega, by omega⟩
      rcases List.mem_append.1 ht with ht | ht
      · exact (hf t ht).2
      · simp only [List.mem_singleton] at ht
        subst ht
        exact ⟨fun h => absurd h (by dsimp only; decide), fun h => absurd h (by dsimp only; decide), by dsimp only; decide, by dsimp only; decide⟩
end Go.Proofs.YtmanockofcopjaaGreatDoor.Con

namespace Go.Proofs.YtmanockofcopjaaGreatDoor.Con
open Go Go.RowKit Go.Kt Go.Kt.V Go.Proofs.YtmanockofcopjaaGreatDoor.Vc
set_option linter.unusedSimpArgs false
set_option linter.unusedVariables false
set_option maxHeartbeats 4000000

/-! ## worlds on the way: of the old blocks only bs turned, and the blocks ks came on the way -/
structure Fz (bs : List Nat) (w w' : World) (ks : List Nat) : Prop where
  o : Only bs w w'
  k : ∀ x, x ∈ ks → w.heap.size ≤ x ∧ x < w'.heap.size
  lo : ∀ x, x ∈ bs → x < w.heap.size
section
variable {bs bs' ks ks' : List Nat} {w w1 w2 w' : World} {k0 b : Nat}
theorem Fz.start (lo : ∀ x, x ∈ bs → x < w.heap.size) : Fz bs w w [] := ⟨Only.refl _ _, fun _ h => (by cases h), lo⟩
theorem Fz.go (h : Fz bs w w1 ks) (k : Only bs' w1 w2) (hb : ∀ x, x ∈ bs' → x ∈ bs ∨ x ∈ ks) : Fz bs w w2 ks :=
  ⟨h.o.trans k fun x hx => (hb x hx).imp id fun hk => (h.k x hk).1, fun x hx => ⟨(h.k x hx).1, Nat.lt_of_lt_of_le (h.k x hx).2 k.size⟩, h.lo⟩
theorem Fz.new (h : Fz bs w w1 ks) (k : Only bs' w1 w2) (hb : ∀ x, x ∈ bs' → x ∈ bs ∨ w.heap.size ≤ x) : Fz bs w w2 ks :=
  ⟨h.o.trans k hb, fun x hx => ⟨(h.k x hx).1, Nat.lt_of_lt_of_le (h.k x hx).2 k.size⟩, h.lo⟩
theorem Fz.q (h : Fz bs w w1 ks) (k : Only [] w1 w2) : Fz bs w w2 ks := h.go k fun x hx => (by cases hx)
theorem Fz.c (h : Fz (b :: bs) w w1 ks) (k : Only [b] w1 w2) : Fz (b :: bs) w w2 ks := h.go k fun x hx => .inl (by simp only [List.mem_singleton] at hx; simp [hx])
theorem Fz.f (h : Fz bs w w1 ks) (k : Only [k0] w1 w2) (hk : k0 ∈ ks) : Fz bs w w2 ks := h.go k fun x hx => .inr (by simp only [List.mem_singleton] at hx; rw [hx]; exact hk)
theorem Fz.al (h : Fz bs w w1 ks) (k : Only [] w1 w2) (h1 : w1.heap.size ≤ k0) (h2 : k0 < w2.heap.size) : Fz bs w w2 (k0 :: ks) :=
  ⟨(h.q k).o, fun x hx => by
    rcases List.mem_cons.1 hx with rfl | hx
    · exact ⟨Nat.le_trans h.o.size h1, h2⟩
    · exact (h.q k).k x hx, h.lo⟩
theorem Fz.sm (h : Fz bs w w1 ks) (k : Only bs' w1 w2) (hk : ∀ x, x ∈ ks' → x ∈ ks) (hb : ∀ x, x ∈ bs' → x ∈ bs ∨ ∀ y, y ∈ ks' → y ≠ x) : Same ks' w1 w2 := k.same fun x hx =>
  ⟨(h.k x (hk x hx)).2, fun hm => by
    rcases hb x hm with h1 | h1
    · have := (h.k x (hk x hx)).1
      have := h.lo x h1
      omega
    · exact h1 x hx rfl⟩
theorem Fz.sq (h : Fz bs w w1 ks) (k : Only [] w1 w2) (hk : ∀ x, x ∈ ks' → x ∈ ks) : Same ks' w1 w2 := h.sm k hk fun x hx => (by cases hx)
theorem Fz.sc (h : Fz (b :: bs) w w1 ks) (k : Only [b] w1 w2) (hk : ∀ x, x ∈ ks' → x ∈ ks) : Same ks' w1 w2 := h.sm k hk fun x hx => .inl (by simp only [List.mem_singleton] at hx; simp [hx])
theorem Fz.ne (h : Fz bs w w1 ks) (hk : k0 ∈ ks) (hb : b ∈ bs) : k0 ≠ b := fun e => by
  have := (h.k k0 hk).1
  have := h.lo b hb
  omega
end
/-! ## what was made stays -/
section
variable {α : Type} {r : Rp α} {w w1 w' : World} {x : α} {cs : List Value} {B : Nat}
/-- what lies from B on is as it was -/
structure Stay (B : Nat) (w w' : World) : Prop where
  sz : w.heap.size ≤ w'.heap.size
  eq : ∀ k, B ≤ k → k < w.heap.size → w'.heap[k]? = w.heap[k]?
theorem Stay.refl (B : Nat) (w : World) : Stay B w w := ⟨Nat.le_refl _, fun _ _ _ => rfl⟩
theorem Stay.go {bs : List Nat} (h : Stay B w w1) (k : Only bs w1 w') (hb : ∀ x, x ∈ bs → x < B ∨ w.heap.size ≤ x) : Stay B w w' :=
  ⟨Nat.le_trans h.sz k.size, fun i h1 h2 => (k.block i (Nat.lt_of_lt_of_le h2 h.sz) fun hm => by have := hb i hm; omega).trans (h.eq i h1 h2)⟩
theorem Stay.of {bs : List Nat} (k : Only bs w w') (hb : ∀ x, x ∈ bs → x < B ∨ w.heap.size ≤ x) : Stay B w w' := (Stay.refl B w).go k hb
theorem _root_.Go.Kt.Rp.Ok.stay (hr : r.Ok) (h : r w (Fr B) x cs) (hs : Stay B w w') : r w' (Fr B) x cs :=
  hr.mono (hr.keep (hr.inHeap h) fun k hk hlt => hs.eq k hk.1 hlt) fun k hk => hk.1
theorem _root_.Go.Kt.Rp.Ok.low (hr : r.Ok) (h : r w (Fr B) x cs) {A : Nat} (hA : A ≤ B) : r w (Fr A) x cs := hr.mono h fun k hk => Nat.le_trans hA hk
variable {size : Nat} {e : TypeId} {s : Sl} {xs : List α} {t : Bool}
theorem SlG.stay (hr : r.Ok) (h : SlG t r size e w (Fr B) s xs) (h0 : 0 < size) (hs : Stay B w w') : SlG t r size e w' (Fr B) s xs :=
  ((h.inHeap hr h0).keep hr h0 fun k hk hlt => hs.eq k hk.1 hlt).mono hr fun k hk => hk.1
theorem SlG.low (hr : r.Ok) (h : SlG t r size e w (Fr B) s xs) {A : Nat} (hA : A ≤ B) : SlG t r size e w (Fr A) s xs := h.mono hr fun k hk => Nat.le_trans hA hk
end

/-! ## the reader -/
abbrev sxv (l : Sl) (s : Sx) : List Value := [l.v, .int .i64 (s.i : Int), .int .i64 s.fc, .int .i64 s.fa, .int .i64 s.v, .int .i64 s.n, .int .i64 s.d, .int .i64 s.m, .int .i64 s.a]
structure Sr (F : Nat → Prop) (ts : List Tk) (w : World) (b : Nat) (l : Sl) (s : Sx) : Prop where
  blk : Blk w b 82 (sxv l s)
  tok : SliceF rTk 4 w F l ts
  hF : ∀ k, F k → k < b
  en : EndL ts
  lt : s.i < ts.length
  sm : ts.length ≤ 16777216
abbrev rp (b : Nat) : Value := .pointer (some ⟨b, 0, none⟩)
section
variable {F : Nat → Prop} {ts : List Tk} {w w' : World} {b : Nat} {l : Sl} {s s' : Sx}
theorem Sr.own (h : Sr F ts w b l s) {bs : List Nat} (hO : Only bs w w') (hb : ∀ x, x ∈ bs → b < x) : Sr F ts w' b l s :=
  ⟨hO.blk h.blk fun hm => (by have := hb b hm; omega), SliceF.only rTk_ok (by decide) h.tok hO fun k hk _ hm => (by have := h.hF k hk; have := hb k hm; omega), h.hF, h.en, h.lt, h.sm⟩
theorem Sr.far (h : Sr F ts w b l s) {bs : List Nat} (hO : Only bs w w') (hb : ∀ x, x ∈ bs → x ≠ b ∧ ¬ F x) : Sr F ts w' b l s :=
  ⟨hO.blk h.blk fun hm => (hb b hm).1 rfl, SliceF.only rTk_ok (by decide) h.tok hO fun k hk _ hm => (hb k hm).2 hk, h.hF, h.en, h.lt, h.sm⟩
theorem Sr.far1 (h : Sr F ts w b l s) {k0 : Nat} (hO : Only [k0] w w') (hk : k0 ≠ b ∧ ¬ F k0) : Sr F ts w' b l s := h.far hO fun x hx => (by simp only [List.mem_singleton] at hx; subst hx; exact hk)
theorem Sr.gt (h : Sr F ts w b l s) {x : Nat} (hx : b < x) : x ≠ b ∧ ¬ F x := ⟨by omega, fun hF => by have := h.hF x hF; omega⟩
theorem Sr.only (h : Sr F ts w b l s) (hO : Only [] w w') : Sr F ts w' b l s := h.own hO fun x hx => (by cases hx)
theorem Sr.one (h : Sr F ts w b l s) {k0 : Nat} (hO : Only [k0] w w') (hk : b < k0) : Sr F ts w' b l s := h.own hO fun x hx => (by simp only [List.mem_singleton] at hx; omega)
theorem Sr.turn (h : Sr F ts w b l s) (hO : Only [b] w w') (hB : Blk w' b 82 (sxv l s')) (hi : s'.i < ts.length) : Sr F ts w' b l s' :=
  ⟨hB, SliceF.only rTk_ok (by decide) h.tok hO fun k hk _ hm => (by have := h.hF k hk; simp only [List.mem_singleton] at hm; omega), h.hF, h.en, hi, h.sm⟩
theorem Sr.lb (h : Sr F ts w b l s) : b < w.heap.size := h.blk.lt
theorem Sr.z (h : Sr F ts w b l s) : Fz [b] w w [] := Fz.start fun x hx => (by simp only [List.mem_singleton] at hx; rw [hx]; exact h.lb)
theorem Sr.big (h : Sr F ts w b l s) : ts.length ≤ 9223372036854775807 := by
  have h1 := h.tok.len
  have h2 := h.tok.cap
  have h3 := h.tok.big
  omega
theorem Sr.wr (h : Sr F ts w b l s) : IntKind.wrap .i64 ((s.i : Int) + 1) = ((s.i + 1 : Nat) : Int) := by
  have := h.big
  have := h.lt
  rw [wr' (by omega) (by omega)]; rfl
theorem Sr.now (h : Sr F ts w b l s) : ∃ ad, SlAt l (s.i : Int) 4 ad ∧ Cells w ad [.int .i64 (tk ts s.i).k, .string (T (tk ts s.i).t), .int .i64 (tk ts s.i).n, .int .i64 (tk ts s.i).a] := by
  have hl := h.tok.len
  have hlt := h.lt
  obtain ⟨ad, x, cs, g1, g2, g3, g4, g5, g6⟩ := h.tok.get (Int.natCast_nonneg s.i) (by omega)
  rw [Int.toNat_natCast, tk_at h.lt] at g2
  injection g2 with g2
  subst g2
  unfold rTk at g6
  subst g6
  exact ⟨ad, g1, g5⟩
/-- done: nothing but the reader's block turned -/
structure Dn (F : Nat → Prop) (ts : List Tk) (w w' : World) (b : Nat) (l : Sl) (s : Sx) : Prop where
  o : Only [b] w w'
  r : Sr F ts w' b l s
theorem Sr.dn (h : Sr F ts w b l s) : Dn F ts w w b l s := ⟨Only.refl _ _, h⟩
theorem Dn.q (h : Dn F ts w w' b l s) {w2 : World} (k : Only [] w' w2) : Dn F ts w w2 b l s := ⟨h.o.tr0 k, h.r.only k⟩
theorem Dn.nx (h : Dn F ts w w' b l s) {w2 : World} {s' : Sx} (k : Dn F ts w' w2 b l s') : Dn F ts w w2 b l s' := ⟨h.o.trans k.o fun x hx => .inl hx, k.r⟩
/-- a box of one's own is given back -/
theorem Dn.f (h : Dn F ts w w' b l s) {w2 : World} {k0 : Nat} (k : Only [k0] w' w2) (hk : w.heap.size ≤ k0) (hb : b < w.heap.size) : Dn F ts w w2 b l s := ⟨h.o.new k hk, h.r.one k (by omega)⟩
theorem Sr.tk (h : Sr F ts w b l s) {ad : Addr} (g : SlAt l (s.i : Int) 4 ad) : Cells w ad [.int .i64 (tk ts s.i).k, .string (T (tk ts s.i).t), .int .i64 (tk ts s.i).n, .int .i64 (tk ts s.i).a] := by
  obtain ⟨ad', g1, g2⟩ := h.now
  rw [g.uniq g1]
  exact g2
/-- on the way: what turned, what came, and how the reader is -/
structure Zt (F : Nat → Prop) (ts : List Tk) (w w' : World) (b : Nat) (l : Sl) (s : Sx) (ks : List Nat) : Prop where
  z : Fz [b] w w' ks
  r : Sr F ts w' b l s
section
variable {w2 : World} {ks ks' : List Nat} {k0 : Nat}
theorem Sr.zt (h : Sr F ts w b l s) : Zt F ts w w b l s [] := ⟨h.z, h⟩
theorem Zt.q (h : Zt F ts w w' b l s ks) (k : Only [] w' w2) : Zt F ts w w2 b l s ks := ⟨h.z.q k, h.r.only k⟩
theorem Zt.al (h : Zt F ts w w' b l s ks) (k : Only [] w' w2) (h1 : w'.heap.size ≤ k0) (h2 : k0 < w2.heap.size) : Zt F ts w w2 b l s (k0 :: ks) := ⟨h.z.al k h1 h2, h.r.only k⟩
theorem Zt.ad (h : Zt F ts w w' b l s ks) (h1 : w.heap.size ≤ k0) (h2 : k0 < w'.heap.size) : Zt F ts w w' b l s (k0 :: ks) := ⟨⟨h.z.o, fun x hx => by
  rcases List.mem_cons.1 hx with rfl | hx
  · exact ⟨h1, h2⟩
  · exact h.z.k x hx, h.z.lo⟩, h.r⟩
theorem Zt.lt (h : Zt F ts w w' b l s ks) (hk : k0 ∈ ks) : b < k0 := Nat.lt_of_lt_of_le (h.z.lo b (by simp)) (h.z.k k0 hk).1
theorem Zt.f (h : Zt F ts w w' b l s ks) (k : Only [k0] w' w2) (hk : k0 ∈ ks) : Zt F ts w w2 b l s ks := ⟨h.z.f k hk, h.r.one k (h.lt hk)⟩
theorem Zt.nx (h : Zt F ts w w' b l s ks) (k : Dn F ts w' w2 b l s') : Zt F ts w w2 b l s' ks := ⟨h.z.c k.o, k.r⟩
theorem Zt.dn (h : Zt F ts w w' b l s ks) : Dn F ts w w' b l s := ⟨h.z.o, h.r⟩
theorem Zt.up (h : Zt F ts w w' b l s ks) (k : Only [b] w' w2) (hB : Blk w2 b 82 (sxv l s')) (hi : s'.i < ts.length) : Zt F ts w w2 b l s' ks := ⟨h.z.c k, h.r.turn k hB hi⟩
theorem Zt.sq (h : Zt F ts w w' b l s ks) (k : Only [] w' w2) (hk : ∀ x, x ∈ ks' → x ∈ ks) : Same ks' w' w2 := h.z.sq k hk
theorem Zt.sc (h : Zt F ts w w' b l s ks) (k : Dn F ts w' w2 b l s') (hk : ∀ x, x ∈ ks' → x ∈ ks) : Same ks' w' w2 := h.z.sc k.o hk
theorem Zt.row {gs : List Nat} (h : Zt F ts w w' b l s ks) (k : Only gs w' w2) (hg : ∀ x, x ∈ gs → w.heap.size ≤ x) : Zt F ts w w2 b l s ks := ⟨h.z.new k fun x hx => .inr (hg x hx), h.r.own k fun x hx => Nat.lt_of_lt_of_le (h.z.lo b (by simp)) (hg x hx)⟩
theorem Zt.sr {gs : List Nat} (h : Zt F ts w w' b l s ks) (k : Only gs w' w2) (hk : ∀ x, x ∈ ks' → x ∈ ks) (hg : ∀ x, x ∈ gs → ∀ y, y ∈ ks' → y < x) : Same ks' w' w2 := h.z.sm k hk fun x hx => .inr fun y hy e => by have := hg x hx y hy; omega
theorem Zt.ne (h : Zt F ts w w' b l s ks) (hk : k0 ∈ ks) : k0 ≠ b := h.z.ne hk (by simp)
theorem Stay.q {B : Nat} (h : Stay B w w') (k : Only [] w' w2) : Stay B w w2 := h.go k fun x hx => (by cases hx)
theorem Stay.d {B : Nat} (h : Stay B w w') (k : Dn F ts w' w2 b l s') (hb : b < B) : Stay B w w2 := h.go k.o fun x hx => .inl (by simp only [List.mem_singleton] at hx; omega)
theorem Stay.f {B : Nat} (h : Stay B w w') (k : Only [k0] w' w2) (hk : k0 < B ∨ w.heap.size ≤ k0) : Stay B w w2 := h.go k fun x hx => (by simp only [List.mem_singleton] at hx; subst hx; exact hk)
end
theorem sfine_c (h : Sr F ts w b l s) : Calls Tryz.prog 34 #[rp b] w fun e w' => e = .returned (.bool (s.fc == 0)) ∧ Only [] w w' := by
  refine ret (syntax_cursor_fine_wp ⟨b, 0, none⟩ (fun v w' => v = (.bool (s.fc == 0)) ∧ Only [] w w') w ?_)
  unfold syntax_cursor_fine_vc
  exact ⟨s.fc, Blk.at1 h.blk 2 rfl, rfl, Only.refl _ _⟩
theorem sstop_c (h : Sr F ts w b l s) (c : Int) : Calls Tryz.prog 62 #[rp b, .int .i64 c] w fun e w' => e = .returned (.tuple #[]) ∧ Dn F ts w w' b l (stopS ts s c) := by
  refine ret (syntax_cursor_stop_wp ⟨b, 0, none⟩ c (fun v w' => v = (.tuple #[]) ∧ Dn F ts w w' b l (stopS ts s c)) w ?_)
  unfold syntax_cursor_stop_vc
  refine (sfine_c h).mono ?_
  rintro _ w0 ⟨rfl, hO0⟩
  refine ⟨_, rfl, fun hc w1 hO1 => ?_, fun hc => ?_⟩
  · have hc : s.fc = 0 := by simpa using hc
    have h1 := h.only (hO0.tr0 hO1)
    obtain ⟨ad, g1, g2⟩ := h1.now
    refine ⟨l, Blk.at1 h1.blk 0 rfl, _, Blk.at1 h1.blk 1 rfl, ad, g1, _, g2.at1 3 _ rfl, b, 2, _, _, rfl, h1.blk, by simp, fun w2 hO2 hB2 => ⟨rfl, ((hO0.tr0 hO1).weaken (bs' := [b]) fun _ h => (by cases h)).trans hO2 fun x hx => .inl hx, ?_⟩⟩
    unfold stopS
    rw [if_pos hc]
    exact h1.turn (s' := { s with fc := c, fa := (tk ts s.i).a }) hO2 hB2 h.lt
  · have hc : s.fc ≠ 0 := by simpa using hc
    unfold stopS
    rw [if_neg hc]
    exact ⟨rfl, h.dn.q hO0⟩
theorem swrong_c (h : Sr F ts w b l s) : Calls Tryz.prog 35 #[rp b] w fun e w' => e = .returned (.tuple #[]) ∧ Dn F ts w w' b l (wrongS ts s) := by
  refine ret (syntax_cursor_wrong_wp ⟨b, 0, none⟩ (fun v w' => v = (.tuple #[]) ∧ Dn F ts w w' b l (wrongS ts s)) w ?_)
  unfold syntax_cursor_wrong_vc
  obtain ⟨ad, g1, g2⟩ := h.now
  refine ⟨fun w' => Dn F ts w w' b l (if (tk ts s.i).k = 5 then stopS ts s 3 else s), fun w0 h0 => (sstop_c h0.r 4).mono ?_, l, Blk.at1 h.blk 0 rfl, _, Blk.at1 h.blk 1 rfl, ad, g1, _, g2.at1 0 _ rfl, fun hc w2 hO2 => ?_, fun hc w2 hO2 => ?_⟩
  · rintro _ w1 ⟨rfl, h1⟩
    refine ⟨rfl, rfl, h0.nx ?_⟩
    unfold wrongS
    split at h1
    · rename_i e; rw [if_pos e]; exact h1
    · rename_i e; rw [if_neg e]; exact h1
  · refine (sstop_c (h.only hO2) 3).mono ?_
    rintro _ w3 ⟨rfl, h3⟩
    have hc : (tk ts s.i).k = 5 := by simpa using hc
    refine ⟨rfl, ?_⟩
    rw [if_pos hc]
    exact (h.dn.q hO2).nx h3
  · have hc : ¬ (tk ts s.i).k = 5 := by simpa using hc
    rw [if_neg hc]
    exact h.dn.q hO2
theorem ixS_c {s : Sl} {w : World} {G : Nat → Prop} {l : List (List UInt8)} (h : SliceF rTx 1 w G s l) (c : List UInt8) :
    Calls Tryz.prog 94 #[Sl.v s, .string (T c)] w fun r w' => r = .returned (.int .i64 (if ixS c l < l.length then (ixS c l : Int) else -1)) ∧ w' = w := by
  refine ret (slices_Index_string_wp s _ (fun v w' => v = .int .i64 (if ixS c l < l.length then (ixS c l : Int) else -1) ∧ w' = w) w ?_)
  unfold slices_Index_string_vc
  have hlen := h.len
  have hbig := h.big
  have hcap := h.cap
  refine ⟨fun nv i w' => ∃ n : Nat, n ≤ l.length ∧ i = (n : Int) ∧ nv = l.length - n ∧ ixS c l = n + ixS c (l.drop n) ∧ w' = w, l.length, ⟨0, Nat.zero_le _, rfl, rfl, by rw [List.drop_zero, Nat.zero_add], rfl⟩, ?_⟩
  rintro nv _ _ ⟨n, hn, rfl, rfl, hp, rfl⟩
  refine ⟨fun hc => ?_, fun hc => ?_⟩
  · have hlt : (n : Int) < s.n := of_decide_eq_true hc
    obtain ⟨ad, x, cs, g1, g2, g3, g4, g5, g6⟩ := h.get (Int.natCast_nonneg n) hlt
    rw [Int.toNat_natCast] at g2
    unfold rTx at g6
    subst g6
    have hd : l.drop n = x :: l.drop (n + 1) := by rw [List.drop_eq_getElem_cons (List.getElem?_eq_some_iff.1 g2).1, (List.getElem?_eq_some_iff.1 g2).2]
    rw [hd, ixS] at hp
    refine ⟨ad, g1, _, g5, ?_⟩
    rw [T_eq]
    refine ⟨fun he => ⟨?_, rfl⟩, fun he => ⟨l.length - (n + 1), by omega, n + 1, by omega, by rw [wr' (by omega) (by omega)]; rfl, rfl, ?_, rfl⟩⟩
    · have he : c = x := of_decide_eq_true he
      rw [if_pos he] at hp
      rw [if_pos (by omega), hp, Nat.add_zero]
    · have he : c ≠ x := of_decide_eq_false he
      rw [if_neg he] at hp
      omega
  · have hge : ¬ ((n : Int) < s.n) := of_decide_eq_false hc
    rw [List.drop_of_length_le (by omega), ixS] at hp
    rw [if_neg (by omega)]
    exact ⟨rfl, rfl⟩
theorem swhich_c (h : Sr F ts w b l s) {G : Nat → Prop} {q : Sl} {ss : List (List UInt8)} (hs : SliceF rTx 1 w G q ss) : Calls Tryz.prog 64 #[rp b, q.v] w fun e w' => e = .returned (.int .i64 (whichS ts s ss : Nat)) ∧ Only [] w w' := by
  refine ret (syntax_cursor_which_wp ⟨b, 0, none⟩ q (fun v w' => v = (.int .i64 (whichS ts s ss : Nat)) ∧ Only [] w w') w ?_)
  unfold syntax_cursor_which_vc
  intro w0 hO0
  have h0 := h.only hO0
  obtain ⟨ad, g1, g2⟩ := h0.now
  refine ⟨fun _ => True, trivial, l, Blk.at1 h0.blk 0 rfl, trivial, _, Blk.at1 h0.blk 1 rfl, ad, g1, trivial, _, _, _, _, g2, fun k0 w1 hk hk' hO1 => ?_⟩
  have hO01 := hO0.tr0 hO1
  refine (sfine_c (h0.only hO1)).mono ?_
  rintro _ w2 ⟨rfl, hO2⟩
  have hO02 := hO01.tr0 hO2
  have hc0 : ((!(s.fc == 0)) || (((tk ts s.i).k != 2) && ((tk ts s.i).k != 4))) = decide (s.fc ≠ 0 ∨ ((tk ts s.i).k ≠ 2 ∧ (tk ts s.i).k ≠ 4)) := by
    rw [Bool.eq_iff_iff]
    simp
  refine ⟨_, rfl, hO2.same (by simp; omega), ?_⟩
  rw [hc0]
  refine ⟨fun hc => ?_, fun hc => ?_⟩
  · unfold whichS
    rw [if_pos (of_decide_eq_true hc)]
    exact ⟨rfl, hO02⟩
  · refine (ixS_c (SliceF.only rTx_ok (by decide) hs hO02 (by simp)) (tk ts s.i).t).mono ?_
    rintro _ w3 ⟨rfl, rfl⟩
    refine ⟨_, rfl, Same.refl _ _, ?_, hO02⟩
    unfold whichS
    rw [if_neg (of_decide_eq_false hc)]
    have hl := hs.len
    have hb := hs.big
    have hcp := hs.cap
    split
    · rw [wr' (by omega) (by omega)]; rfl
    · rfl
theorem swh_c (h : Sr F ts w b l s) (ss : List (List UInt8)) {n : Nat} {parts : Array (Nat × Value)} (hp : parts = (((ss.map fun x => Value.string (T x)).zipIdx 0).map fun x => (x.2, x.1)).toArray) (hn : ss.length = n) (h0 : 0 < n) (hsm : n * 1 ≤ 16777216) :
    ∃ (q : Sl) (w0 : World), (Instr.buildSlice 25 n parts).run Tryz.prog w = .ok q.v w0 ∧ Only [] w w0 ∧ Calls Tryz.prog 64 #[rp b, q.v] w0 fun e w' => e = .returned (.int .i64 (whichS ts s ss : Nat)) ∧ Only [] w0 w' := by
  obtain ⟨q, w0, k1, k2, k3⟩ := buildS w ss hp hn h0 hsm
  exact ⟨q, w0, k1, k3, swhich_c (h.only k3) (flatS k2)⟩
theorem stake_c (h : Sr F ts w b l s) {G : Nat → Prop} {q : Sl} {ss : List (List UInt8)} (hs : SliceF rTx 1 w G q ss) : Calls Tryz.prog 31 #[rp b, q.v] w fun e w' => e = .returned (.int .i64 (whichS ts s ss : Nat)) ∧ Dn F ts w w' b l (if whichS ts s ss = 0 then s else nextS s) := by
  refine ret (syntax_cursor_take_wp ⟨b, 0, none⟩ q (fun v w' => v = (.int .i64 (whichS ts s ss : Nat)) ∧ Dn F ts w w' b l (if whichS ts s ss = 0 then s else nextS s)) w ?_)
  unfold syntax_cursor_take_vc
  refine (swhich_c h hs).mono ?_
  rintro _ w0 ⟨rfl, hO0⟩
  have h0 := h.only hO0
  refine ⟨_, rfl, fun w' => Dn F ts w w' b l (if whichS ts s ss = 0 then s else nextS s), fun w1 h1 => ⟨rfl, h1⟩, fun hc => ?_, fun hc => ?_⟩
  · have hc : whichS ts s ss ≠ 0 := by have := of_decide_eq_true hc; omega
    refine ⟨_, Blk.at1 h0.blk 1 rfl, b, 1, _, _, rfl, h0.blk, by simp, fun w2 hO2 hB2 => ?_⟩
    rw [if_neg hc]
    rw [h.wr] at hB2
    exact ⟨(hO0.weaken (bs' := [b]) fun _ h => (by cases h)).trans hO2 fun x hx => .inl hx, h0.turn (s' := nextS s) hO2 hB2 (h.en.next h.lt (which_ne hc).2)⟩
  · have hc : whichS ts s ss = 0 := by have := of_decide_eq_false hc; omega
    rw [if_pos hc]
    exact h.dn.q hO0
theorem stk_c (h : Sr F ts w b l s) (ss : List (List UInt8)) {n : Nat} {parts : Array (Nat × Value)} (hp : parts = (((ss.map fun x => Value.string (T x)).zipIdx 0).map fun x => (x.2, x.1)).toArray) (hn : ss.length = n) (h0 : 0 < n) (hsm : n * 1 ≤ 16777216) :
    ∃ (q : Sl) (w0 : World), (Instr.buildSlice 25 n parts).run Tryz.prog w = .ok q.v w0 ∧ Only [] w w0 ∧ Calls Tryz.prog 31 #[rp b, q.v] w0 fun e w' => e = .returned (.int .i64 (whichS ts s ss : Nat)) ∧ Dn F ts w0 w' b l (if whichS ts s ss = 0 then s else nextS s) := by
  obtain ⟨q, w0, k1, k2, k3⟩ := buildS w ss hp hn h0 hsm
  exact ⟨q, w0, k1, k3, stake_c (h.only k3) (flatS k2)⟩
theorem smust_c (h : Sr F ts w b l s) {G : Nat → Prop} {q : Sl} {x : List UInt8} (hs : SliceF rTx 1 w G q [x]) (hG : ∀ k, G k → k ≠ b) : Calls Tryz.prog 29 #[rp b, q.v] w fun e w' => e = .returned (.tuple #[]) ∧ Dn F ts w w' b l (mustS ts s x) := by
  refine ret (syntax_cursor_must_wp ⟨b, 0, none⟩ q (fun v w' => v = (.tuple #[]) ∧ Dn F ts w w' b l (mustS ts s x)) w ?_)
  unfold syntax_cursor_must_vc
  have hn : q.n = 1 := hs.len
  refine ⟨fun nv i w' => (i = 0 ∧ nv = 1 ∧ w' = w) ∨ (i = 1 ∧ nv = 0 ∧ Dn F ts w w' b l (mustS ts s x)), 1, .inl ⟨rfl, rfl, rfl⟩, ?_⟩
  rintro nv i w0 (⟨rfl, rfl, rfl⟩ | ⟨rfl, rfl, hD⟩)
  · refine ⟨fun _ => ?_, fun hc => absurd (of_decide_eq_false hc) (by omega)⟩
    refine ⟨fun w' => Dn F ts w0 w' b l (mustS ts s x), fun w1 h1 => ⟨0, by decide, .inr ⟨rfl, rfl, h1⟩⟩, ?_⟩
    obtain ⟨ad, y, cs, g1, g2, g3, g4, g5, g6⟩ := hs.get (i := 0) (by decide) (by omega)
    simp only [Int.toNat_zero, List.getElem?_cons_zero, Option.some.injEq] at g2
    subst g2
    unfold rTx at g6
    subst g6
    obtain ⟨q0, w2, k1, k2, k3⟩ := stk_c h [x] (n := 1) (parts := #[(0, .string (T x))]) rfl rfl (by decide) (by decide)
    refine ⟨ad, g1, _, g5, q0, w2, k1, k3.mono ?_⟩
    rintro _ w3 ⟨rfl, h3⟩
    have h03 := (h.dn.q k2).nx h3
    refine ⟨_, rfl, fun hc => ?_, fun hc => ?_⟩
    · have hc : whichS ts s [x] = 0 := by have : ((whichS ts s [x] : Nat) : Int) = 0 := by simpa using hc
                                          omega
      rw [if_pos hc] at h03
      refine (swrong_c h03.r).mono ?_
      rintro _ w4 ⟨rfl, h4⟩
      refine ⟨rfl, ?_⟩
      unfold mustS
      rw [if_pos hc]
      exact h03.nx h4
    · have hc : whichS ts s [x] ≠ 0 := fun e => by rw [e] at hc; simp at hc
      rw [if_neg hc] at h03
      unfold mustS
      rw [if_neg hc]
      exact h03
  · exact ⟨fun hc => absurd (of_decide_eq_true hc) (by omega), fun _ => ⟨rfl, hD⟩⟩
theorem sms_c (h : Sr F ts w b l s) (x : List UInt8) : ∃ (q : Sl) (w0 : World), (Instr.buildSlice 25 1 #[.mk 0 (.string (T x))]).run Tryz.prog w = .ok q.v w0 ∧ Only [] w w0 ∧ Calls Tryz.prog 29 #[rp b, q.v] w0 fun e w' => e = .returned (.tuple #[]) ∧ Dn F ts w0 w' b l (mustS ts s x) := by
  obtain ⟨q, w0, k1, k2, k3⟩ := buildS w [x] (n := 1) (parts := #[(0, .string (T x))]) rfl rfl (by decide) (by decide)
  exact ⟨q, w0, k1, k3, smust_c (h.only k3) (flatS k2) fun k hk e => (by have := hk.1; have := h.lb; omega)⟩
theorem skind_c (h : Sr F ts w b l s) {k : Int} (hk5 : k ≠ 5) : Calls Tryz.prog 63 #[rp b, .int .i64 k] w fun e w' => e = .returned (kindS ts s k).1.v ∧ Dn F ts w w' b l (kindS ts s k).2 := by
  refine ret (syntax_cursor_kind_wp ⟨b, 0, none⟩ k (fun v w' => v = (kindS ts s k).1.v ∧ Dn F ts w w' b l (kindS ts s k).2) w ?_)
  unfold syntax_cursor_kind_vc
  intro k0 w0 hk hk' hO0
  have z0 := h.z.al hO0 hk hk'
  have h0 := h.only hO0
  obtain ⟨ad, g1, g2⟩ := h0.now
  refine ⟨fun _ => True, trivial, l, Blk.at1 h0.blk 0 rfl, trivial, _, Blk.at1 h0.blk 1 rfl, ad, g1, trivial, _, _, _, _, g2, fun k1 w1 hk1 hk1' hO1 => ?_⟩
  have z1 := z0.al hO1 hk1 hk1'
  refine (sfine_c (h0.only hO1)).mono ?_
  rintro _ w2 ⟨rfl, hO2⟩
  have z2 := z1.q hO2
  have hl := h.lb
  have d2 : Dn F ts w w2 b l s := h.dn.q ((hO0.tr0 hO1).tr0 hO2)
  have hc0 : ((!(s.fc == 0)) || ((tk ts s.i).k != k)) = decide (s.fc ≠ 0 ∨ (tk ts s.i).k ≠ k) := by
    rw [Bool.eq_iff_iff]
    simp
  refine ⟨_, rfl, z1.sq hO2 (by simp), ?_⟩
  rw [hc0]
  refine ⟨fun hc => (swrong_c d2.r).mono ?_, fun hc => ?_⟩
  · rintro _ w3 ⟨rfl, h3⟩
    refine ⟨rfl, z2.sc h3.o (by simp), fun w4 hO4 => ?_⟩
    unfold kindS
    rw [if_pos (of_decide_eq_true hc)]
    exact ⟨rfl, (d2.nx h3).f hO4 hk hl⟩
  · refine ⟨_, Blk.at1 d2.r.blk 1 rfl, b, 1, _, _, rfl, d2.r.blk, by simp, z2.ne (by simp) (by simp), z2.ne (by simp) (by simp), fun w5 hO5 hB5 w6 hO6 => ?_⟩
    have hc := of_decide_eq_false hc
    unfold kindS
    rw [if_neg hc]
    simp only [not_or, Decidable.not_not] at hc
    rw [h.wr] at hB5
    have d5 : Dn F ts w w5 b l (nextS s) := ⟨d2.o.trans hO5 fun x hx => .inl hx, d2.r.turn hO5 hB5 (h.en.next h.lt (by rw [hc.2]; exact hk5))⟩
    exact ⟨rfl, d5.f hO6 hk hl⟩
theorem sname_c (h : Sr F ts w b l s) : Calls Tryz.prog 108 #[rp b] w fun e w' => e = .returned (.string (T (nameS ts s).1)) ∧ Dn F ts w w' b l (nameS ts s).2 := by
  refine ret (syntax_cursor_name_wp ⟨b, 0, none⟩ (fun v w' => v = (.string (T (nameS ts s).1)) ∧ Dn F ts w w' b l (nameS ts s).2) w ?_)
  unfold syntax_cursor_name_vc
  refine (skind_c h (k := 1) (by decide)).mono ?_
  rintro _ w0 ⟨rfl, h0⟩
  exact ⟨_, _, _, _, rfl, rfl, h0⟩
theorem _root_.Go.Kt.Blk.at0 {w : World} {b : Nat} {t : TypeId} {cs : List Value} {v : Value} (h : Blk w b t cs) (j : Nat) (hx : cs[j]? = some v) : Cells w ⟨b, j, none⟩ [v] := by
  have := Blk.at1 h j hx
  rwa [addr_lit, Nat.zero_add] at this
/-- room is used: cell j of the reader -/
theorem uses_c (h : Sr F ts w b l s) (j : Nat) (x : Int) (c : Int) (u : Sx) (hx : (sxv l s)[j]? = some (.int .i64 x)) (hx' : (sxv l (stopS ts s c))[j]? = some (.int .i64 x)) (hui : u.i = s.i)
    (hu : sxv l u = splice (sxv l (if x = 0 then stopS ts s c else s)) j [.int .i64 (dec x)]) : Calls Tryz.prog 61 #[rp b, .pointer (some ⟨b, j, none⟩), .int .i64 c] w fun e w' => e = .returned (.tuple #[]) ∧ Dn F ts w w' b l u := by
  refine ret (syntax_reader_uses_wp ⟨b, 0, none⟩ _ c (fun v w' => v = (.tuple #[]) ∧ Dn F ts w w' b l u) w ?_)
  unfold syntax_reader_uses_vc
  have hj : j + 1 ≤ 9 := (List.getElem?_eq_some_iff.1 hx).1
  refine ⟨fun w' => Dn F ts w w' b l (if x = 0 then stopS ts s c else s), fun w0 h0 => ?_, _, rfl, x, Blk.at0 h.blk j hx, fun hc => ?_, fun hc => ?_⟩
  · refine ⟨_, rfl, x, Blk.at0 h0.r.blk j (by split <;> assumption), _, rfl, b, j, _, _, rfl, h0.r.blk, hj, fun w1 hO1 hB1 => ⟨rfl, h0.o.trans hO1 fun x hx => .inl hx, h0.r.turn hO1 (s' := u) ?_ (by rw [hui]; exact h.lt)⟩⟩
    rw [hu]
    exact hB1
  · refine (sstop_c h c).mono ?_
    rintro _ w2 ⟨rfl, h2⟩
    have hc : x = 0 := by simpa using hc
    rw [if_pos hc]
    exact ⟨rfl, h2⟩
  · have hc : ¬ x = 0 := by simpa using hc
    rw [if_neg hc]
    exact h.dn
theorem useA_c (h : Sr F ts w b l s) : Calls Tryz.prog 61 #[rp b, .pointer (some ⟨b, 8, none⟩), .int .i64 2] w fun e w' => e = .returned (.tuple #[]) ∧ Dn F ts w w' b l (useA ts s) :=
  uses_c h 8 s.a 2 _ rfl (by unfold stopS; split <;> rfl) (useA_i s) (by unfold useA stopS; split <;> (try split) <;> rfl)
theorem useM_c (h : Sr F ts w b l s) : Calls Tryz.prog 61 #[rp b, .pointer (some ⟨b, 7, none⟩), .int .i64 2] w fun e w' => e = .returned (.tuple #[]) ∧ Dn F ts w w' b l (useM ts s) :=
  uses_c h 7 s.m 2 _ rfl (by unfold stopS; split <;> rfl) (useM_i s) (by unfold useM stopS; split <;> (try split) <;> rfl)
theorem useN_c (h : Sr F ts w b l s) : Calls Tryz.prog 61 #[rp b, .pointer (some ⟨b, 5, none⟩), .int .i64 2] w fun e w' => e = .returned (.tuple #[]) ∧ Dn F ts w w' b l (useN ts s) :=
  uses_c h 5 s.n 2 _ rfl (by unfold stopS; split <;> rfl) (by unfold useN; split; exact stop_i 2; rfl) (by unfold useN stopS; split <;> (try split) <;> rfl)
theorem useV_c (h : Sr F ts w b l s) : Calls Tryz.prog 61 #[rp b, .pointer (some ⟨b, 4, none⟩), .int .i64 2] w fun e w' => e = .returned (.tuple #[]) ∧ Dn F ts w w' b l (useV ts s) :=
  uses_c h 4 s.v 2 _ rfl (by unfold stopS; split <;> rfl) (by unfold useV; split; exact stop_i 2; rfl) (by unfold useV stopS; split <;> (try split) <;> rfl)
theorem sexpr_c (h : Sr F ts w b l s) : Calls Tryz.prog 121 #[rp b] w fun e w' => ∃ cs, e = .returned (.agg cs.toArray) ∧ rE true w' (Fr w.heap.size) (exprS ts s).1 cs ∧ Dn F ts w w' b l (exprS ts s).2 := by
  refine (syntax_cursor_expr_wp ⟨b, 0, none⟩ (fun v w' => ∃ cs, v = (.agg cs.toArray) ∧ rE true w' (Fr w.heap.size) (exprS ts s).1 cs ∧ Dn F ts w w' b l (exprS ts s).2) w ?_).mono (by
    rintro e w' ⟨v, rfl, cs, rfl, h⟩; exact ⟨cs, rfl, h⟩)
  unfold syntax_cursor_expr_vc
  intro k0 w0 hk hk' hO0
  have hl := h.lb
  have z0 := h.z.al hO0 hk hk'
  refine (sfine_c (h.only hO0)).mono ?_
  rintro _ w1 ⟨rfl, hO1⟩
  have z1 := z0.q hO1
  have d1 : Dn F ts w w1 b l s := h.dn.q (hO0.tr0 hO1)
  refine ⟨_, rfl, z0.sq hO1 (by simp), fun hc w2 hO2 => ?_, fun hc w3 hO3 => ?_⟩
  · have hc : s.fc ≠ 0 := by simpa using hc
    unfold exprS
    rw [if_pos hc]
    exact ⟨_, rfl, rE0 _ _ _, d1.f hO2 hk hl⟩
  · have hc : ¬ s.fc ≠ 0 := by simpa using hc
    have z3 := z1.q hO3
    have d3 := d1.q hO3
    refine ⟨fun k => k = b, fun w4 hO4 => ⟨rfl, l, Blk.at1 (d3.q hO4).r.blk 0 rfl, fun w5 hO5 => ⟨rfl, _, Blk.at1 ((d3.q hO4).q hO5).r.blk 1 rfl, fun w6 hO6 => ?_⟩⟩⟩
    have z6 := ((z3.q hO4).q hO5).q hO6
    have d6 := ((d3.q hO4).q hO5).q hO6
    have hb6 := d6.r.big
    have hlt := h.lt
    refine (parse_c d6.r.tok (s.i : Int) ⟨by omega, by omega⟩).mono ?_
    rintro _ w7 ⟨cs, rfl, hX, hj, hO7⟩
    have z7 := z6.q hO7
    have d7 := d6.q hO7
    obtain ⟨sl, hcs, _⟩ := hX.cells
    have hsz : w3.heap.size ≤ w6.heap.size := ((hO4.tr0 hO5).tr0 hO6).size
    refine ⟨_, _, _, _, sl, _, _, _, _, by rw [hcs], z6.sq hO7 (by simp), Newer.only0 hO7, Keeps.only hO7, fun w8 hO8 k1 hk1 hk1' hap => ?_⟩
    obtain ⟨d, hX⟩ := hX.xg
    have hx7 : rE true w7 (fun k => w6.heap.size ≤ k ∧ k < w7.heap.size) (parseA ts s.i).1 cs := ⟨d, hX⟩
    have hk1z : w.heap.size ≤ k1 := Nat.le_trans z3.o.size hk1
    have hk1b : b < k1 := by omega
    have d8 := d7.q hO8
    have zz6 := z6.o.size
    have zz0 := z0.k k0 (by simp)
    have zw0 := ((hO1.tr0 hO3).tr0 ((hO4.tr0 hO5).tr0 hO6)).size
    have hx8 : ∀ {bs : List Nat} {w9 : World}, Only bs w8 w9 → (∀ x, x ∈ bs → x = k1 ∨ x = k0 ∨ x = b) → rE true w9 (Fr w.heap.size) (parseA ts s.i).1 cs := fun hO9 hb9 =>
      (rE_ok true).mono ((rE_ok true).keep hx7 fun k hkk hlt => (hO9.block k (Nat.lt_of_lt_of_le hlt hO8.size) fun hm => by
        rcases hb9 k hm with rfl | rfl | rfl
        · have := hap.one; omega
        · omega
        · omega).trans (hO8.block k hlt (by simp))) fun k hkk => by have := hkk.1; show w.heap.size ≤ k; omega
    unfold exprS
    rw [if_neg hc]
    refine ⟨fun h1 w9 hO9 => ?_, fun h1 w12 hO12 => ?_⟩
    · have h1 : (parseA ts s.i).2.2.1 ≠ 0 := by simpa using h1
      have d9 : Dn F ts w w9 b l s := ⟨d8.o.trans hO9 fun x hx => .inr (by simp only [List.mem_cons, List.not_mem_nil, or_false] at hx; omega), d8.r.own hO9 fun x hx => (by simp only [List.mem_cons, List.not_mem_nil, or_false] at hx; omega)⟩
      refine ⟨b, 2, _, _, rfl, d9.r.blk, by simp, by omega, by omega, fun w10 hO10 hB10 w11 hO11 => ?_⟩
      rw [if_pos h1]
      have d10 : Dn F ts w w10 b l { s with fc := (parseA ts s.i).2.2.1, fa := (parseA ts s.i).2.2.2 } := ⟨d9.o.trans hO10 fun x hx => .inl hx, d9.r.turn hO10 hB10 h.lt⟩
      refine ⟨cs, by rw [hcs], ?_, d10.f hO11 hk hl⟩
      exact hx8 (bs := [k1, k0, b]) (((hO9.weaken (bs' := [k1, k0, b]) fun x hx => .inl (by simp only [List.mem_cons, List.not_mem_nil, or_false] at hx ⊢; omega)).trans hO10 fun x hx => .inl (by simp only [List.mem_singleton] at hx; simp [hx])).trans hO11 fun x hx => .inl (by simp only [List.mem_singleton] at hx; simp [hx])) (by simp)
    · have h1 : ¬ (parseA ts s.i).2.2.1 ≠ 0 := by simpa using h1
      have d12 : Dn F ts w w12 b l s := ⟨d8.o.trans hO12 fun x hx => .inr (by simp only [List.mem_cons, List.not_mem_nil, or_false] at hx; omega), d8.r.own hO12 fun x hx => (by simp only [List.mem_cons, List.not_mem_nil, or_false] at hx; omega)⟩
      obtain ⟨hj0, hj1⟩ := hj (by simpa using h1)
      have ej : ((parseA ts s.i).2.1.toNat : Int) = (parseA ts s.i).2.1 := Int.toNat_of_nonneg hj0
      refine ⟨b, 1, _, _, rfl, d12.r.blk, by simp, by omega, by omega, fun w13 hO13 hB13 w14 hO14 => ?_⟩
      rw [if_neg h1]
      have d13 : Dn F ts w w13 b l { s with i := (parseA ts s.i).2.1.toNat } := ⟨d12.o.trans hO13 fun x hx => .inl hx, d12.r.turn hO13 (by dsimp only [sxv]; rw [ej]; exact hB13) (by dsimp only; omega)⟩
      refine ⟨cs, by rw [hcs], ?_, d13.f hO14 hk hl⟩
      exact hx8 (bs := [k1, k0, b]) (((hO12.weaken (bs' := [k1, k0, b]) fun x hx => .inl (by simp only [List.mem_cons, List.not_mem_nil, or_false] at hx ⊢; omega)).trans hO13 fun x hx => .inl (by simp only [List.mem_singleton] at hx; simp [hx])).trans hO14 fun x hx => .inl (by simp only [List.mem_singleton] at hx; simp [hx])) (by simp)
end
theorem nat0 {n : Nat} (h : ((n : Int) == 0) = true) : n = 0 := by simpa using h
theorem nat1 {n : Nat} (h : ((n : Int) == 0) = false) : n ≠ 0 := fun e => by rw [e] at h; simp at h
theorem pos0 {n : Nat} (h : decide ((n : Int) > 0) = false) : n = 0 := by have := of_decide_eq_false h; omega
theorem pos1 {n : Nat} (h : decide ((n : Int) > 0) = true) : n ≠ 0 := by have := of_decide_eq_true h; omega
end Go.Proofs.YtmanockofcopjaaGreatDoor.Con

namespace Go.Proofs.YtmanockofcopjaaGreatDoor.Con
open Go Go.RowKit Go.Kt Go.Kt.V Go.Proofs.YtmanockofcopjaaGreatDoor.Vc
set_option linter.unusedSimpArgs false
set_option linter.unusedVariables false
set_option maxHeartbeats 4000000

section
variable {F : Nat → Prop} {ts : List Tk} {w w' : World} {b : Nat} {l : Sl} {s s' : Sx}
theorem sact_c (h : Sr F ts w b l s) : Calls Tryz.prog 124 #[rp b] w fun e w' => ∃ cs, e = .returned (.agg cs.toArray) ∧ rAc true w' (Fr w.heap.size) (actS ts s).1 cs ∧ Dn F ts w w' b l (actS ts s).2 := by
  refine (syntax_reader_act_wp ⟨b, 0, none⟩ (fun v w' => ∃ cs, v = (.agg cs.toArray) ∧ rAc true w' (Fr w.heap.size) (actS ts s).1 cs ∧ Dn F ts w w' b l (actS ts s).2) w ?_).mono (by
    rintro e w' ⟨v, rfl, cs, rfl, h⟩; exact ⟨cs, rfl, h⟩)
  unfold syntax_reader_act_vc
  intro k0 w0 hk hk' hO0
  have t0 := h.zt.al hO0 hk hk'
  obtain ⟨ad, g1, _⟩ := h.now
  refine ⟨fun _ => True, fun w1 hO1 => ⟨trivial, l, Blk.at1 (t0.q hO1).r.blk 0 rfl, fun w2 hO2 => ⟨trivial, _, Blk.at1 ((t0.q hO1).q hO2).r.blk 1 rfl, ad, g1, fun w3 hO3 => ?_⟩⟩⟩
  have t3 := ((t0.q hO1).q hO2).q hO3
  refine ⟨trivial, _, (t3.r.tk g1).at1 3 _ rfl, fun w4 hO4 => ?_⟩
  have t4 := t3.q hO4
  obtain ⟨q, w5, e1, hown, hO5⟩ := buildS w4 [wSet, wRaise, wEmit] (n := 3) (parts := #[(0, .string (T wSet)), (1, .string (T wRaise)), (2, .string (T wEmit))]) rfl rfl (by decide) (by decide)
  refine ⟨q, w5, e1, t4.sq hO5 (by simp), Newer.only0 hO5, Keeps.only hO5, fun w6 hO6 => ?_⟩
  have t6 := (t4.q hO5).q hO6
  refine (swhich_c t6.r (SliceF.only rTx_ok (by decide) (flatS hown) hO6 (by simp))).mono ?_
  rintro _ w7 ⟨rfl, hO7⟩
  have t7 := t6.q hO7
  refine ⟨_, rfl, t6.sq hO7 (by simp), Newer.only0 hO7, Keeps.only hO7, fun w8 hO8 k1 hk1 hk1' hap => ?_⟩
  have t8 := (t7.q hO8).ad (Nat.le_trans t0.z.o.size hk1) hk1'
  refine ⟨fun hc w9 hO9 => ?_, fun hc w12 hO12 => ?_⟩
  · have t9 := t8.f hO9 (by simp)
    refine (swrong_c t9.r).mono ?_
    rintro _ w10 ⟨rfl, h10⟩
    refine ⟨rfl, t9.sc h10 (by simp), fun w11 hO11 => ?_⟩
    have hc := nat0 hc
    unfold actS
    rw [if_pos hc, hc]
    exact ⟨_, rfl, ⟨exv 0 0 [] 0 Sl.nil 0, rfl, rE0 _ _ _⟩, ((t9.nx h10).f hO11 (by simp)).dn⟩
  · have hc := nat1 hc
    have t12 := t8.f hO12 (by simp)
    refine (useA_c t12.r).mono ?_
    rintro _ w13 ⟨rfl, h13⟩
    have t13 := t12.nx h13
    refine ⟨rfl, t12.sc h13 (by simp), (sfine_c t13.r).mono ?_⟩
    rintro _ w14 ⟨rfl, hO14⟩
    have t14 := t13.q hO14
    unfold actS
    rw [if_neg hc]
    refine ⟨_, rfl, t13.sq hO14 (by simp), fun hf w15 hO15 => ?_, fun hf => ?_⟩
    · have hf : (useA ts s).fc ≠ 0 := by simpa using hf
      rw [if_pos hf]
      exact ⟨_, rfl, ⟨exv 0 0 [] 0 Sl.nil 0, rfl, rE0 _ _ _⟩, (t14.f hO15 (by simp)).dn⟩
    · have hf : ¬ (useA ts s).fc ≠ 0 := by simpa using hf
      rw [if_neg hf]
      refine ⟨_, Blk.at1 t14.r.blk 1 rfl, b, 1, _, _, rfl, t14.r.blk, by simp, t14.ne (by simp), t14.ne (by simp), fun w16 hO16 hB16 => ?_⟩
      rw [t14.r.wr] at hB16
      have t16 : Zt F ts w w16 b l (nextS (useA ts s)) [k1, k0] := t14.up hO16 hB16 (h.en.next t14.r.lt (by rw [useA_i]; exact (which_ne hc).2))
      refine (sname_c t16.r).mono ?_
      rintro _ w17 ⟨rfl, h17⟩
      have t17 := t16.nx h17
      refine ⟨_, rfl, t16.sc h17 (by simp), fun w18 hO18 => ?_⟩
      have t18 := t17.f hO18 (by simp)
      generalize (nameS ts (nextS (useA ts s))).2 = u at *
      generalize (nameS ts (nextS (useA ts s))).1 = nm at *
      generalize whichS ts s [wSet, wRaise, wEmit] = kk at *
      generalize (tk ts s.i).a = aa at *
      refine ⟨fun i4 s1 i5 i6 s2 i7 l2 i8 i9 w' => ∃ (x : Ex) (u' : Sx), i4 = (kk : Int) ∧ s1 = T nm ∧ i9 = aa ∧ rE true w' (Fr w18.heap.size) x [.int .i64 i5, .int .i64 i6, .string s2, .int .i64 i7, l2.v, .int .i64 i8] ∧ Zt F ts w w' b l u' [k1, k0] ∧ actT ts u kk nm aa = (⟨kk, nm, x, aa⟩, mustS ts u' [59]) ∧ w18.heap.size ≤ w'.heap.size, ?_, fun hk2 => ?_, fun hk2 => ?_⟩
      · rintro i4 s1 i5 i6 s2 i7 l2 i8 i9 w19 ⟨x, u', rfl, rfl, rfl, hx, t19, hT, hsz⟩
        obtain ⟨q, w20, e1, hO20, hm⟩ := sms_c t19.r [59]
        refine ⟨q, w20, e1, t19.sq hO20 (by simp), hm.mono ?_⟩
        rintro _ w21 ⟨rfl, h21⟩
        have t20 := t19.q hO20
        refine ⟨rfl, t20.sc h21 (by simp), fun w22 hO22 => ?_⟩
        rw [hT]
        have zk := t18.z.k k0 (by simp)
        have zs := t18.z.o.size
        have zb := t18.r.lb
        refine ⟨_, rfl, ⟨[.int .i64 i5, .int .i64 i6, .string s2, .int .i64 i7, l2.v, .int .i64 i8], rfl, ?_⟩, ((t20.nx h21).f hO22 (by simp)).dn⟩
        exact (rE_ok true).low ((rE_ok true).stay hx ((((Stay.refl _ _).q hO20).d h21 zb).f hO22 (.inl zk.2))) zs
      · have hk2 : ¬ kk = 2 := fun e => by rw [e] at hk2; simp at hk2
        obtain ⟨q, w23, e1, hO23, hm⟩ := sms_c t18.r [61]
        refine ⟨q, w23, e1, t18.sq hO23 (by simp), hm.mono ?_⟩
        rintro _ w24 ⟨rfl, h24⟩
        have t23 := t18.q hO23
        have t24 := t23.nx h24
        refine ⟨rfl, t23.sc h24 (by simp), (sexpr_c t24.r).mono ?_⟩
        rintro _ w25 ⟨cs, rfl, hx, h25⟩
        obtain ⟨sl, rfl⟩ := rE_cells hx
        have t25 := t24.nx h25
        refine ⟨_, _, _, _, sl, _, rfl, t24.sc h25 (by simp), fun w26 hO26 => ?_⟩
        have z24 : w18.heap.size ≤ w24.heap.size := Nat.le_trans hO23.size h24.o.size
        have zk := t18.z.k k1 (by simp)
        refine ⟨_, _, rfl, rfl, rfl, (rE_ok true).low ((rE_ok true).stay hx ((Stay.refl _ _).f hO26 (.inl (by omega)))) z24, t25.f hO26 (by simp), ?_, Nat.le_trans z24 (Nat.le_trans h25.o.size hO26.size)⟩
        unfold actT
        rw [if_neg hk2]
      · have hk2 : (kk : Int) = 2 := by simpa using hk2
        have hk2 : kk = 2 := by omega
        refine ⟨ex0, u, rfl, rfl, rfl, rE0 _ _ _, t18, ?_, Nat.le_refl _⟩
        unfold actT
        rw [if_pos hk2]

/-! ## a block of acts -/
abbrev AcO (B : Nat) (w : World) (la : Sl) (acc : List Ac) : Prop := Own (rAc true) 9 158 B w (Fr B) la acc
/-- the reader, its pointer's box, the row's box, the row -/
structure Br (F : Nat → Prop) (ts : List Tk) (w w' : World) (b : Nat) (l : Sl) (k0 k1 B : Nat) (s : Sx) (acc : List Ac) (la : Sl) : Prop where
  r : Sr F ts w' b l s
  b0 : Blk w' k0 76 [rp b]
  b1 : Blk w' k1 41 [la.v]
  own : AcO B w' la acc
  o : ∃ gs, Only (b :: k1 :: gs) w w' ∧ ∀ x, x ∈ gs → B ≤ x
  n0 : b < k0
  n1 : b < k1
  n01 : k0 ≠ k1
  l0 : k0 < B
  l1 : k1 < B
  lB : B ≤ w'.heap.size
section
variable {k0 k1 B : Nat} {acc : List Ac} {la : Sl} {w2 : World}
theorem Br.nx (h : Br F ts w w' b l k0 k1 B s acc la) (k : Dn F ts w' w2 b l s') : Br F ts w w2 b l k0 k1 B s' acc la := by
  have n0 := h.n0
  have n1 := h.n1
  have l0 := h.l0
  obtain ⟨gs, h1, h2⟩ := h.o
  exact ⟨k.r, k.o.blk h.b0 (by simp only [List.mem_singleton]; omega), k.o.blk h.b1 (by simp only [List.mem_singleton]; omega), h.own.stay (rAc_ok true) k.o fun x hx => .inl (by simp only [List.mem_singleton] at hx; omega),
    ⟨gs, h1.trans k.o fun x hx => .inl (by simp only [List.mem_singleton] at hx; simp [hx]), h2⟩, n0, n1, h.n01, l0, h.l1, Nat.le_trans h.lB k.o.size⟩
theorem Br.q (h : Br F ts w w' b l k0 k1 B s acc la) (k : Only [] w' w2) : Br F ts w w2 b l k0 k1 B s acc la := h.nx (h.r.dn.q k)
theorem blk1_c (h : Br F ts w w' b l k0 k1 B s acc la) (hm : acc.length < ts.length) : Calls Tryz.prog 123 #[.pointer (some ⟨k1, 0, none⟩), .pointer (some ⟨k0, 0, none⟩)] w' fun e w2 => e = .returned (.tuple #[]) ∧ ∃ la', Br F ts w w2 b l k0 k1 B (actS ts s).2 (acc ++ [(actS ts s).1]) la' := by
  refine ret (syntax_reader_block_1_wp ⟨k1, 0, none⟩ ⟨k0, 0, none⟩ (fun v w2 => v = (.tuple #[]) ∧ ∃ la', Br F ts w w2 b l k0 k1 B (actS ts s).2 (acc ++ [(actS ts s).1]) la') w' ?_)
  unfold syntax_reader_block_1_vc
  intro w0 hO0
  have h0 := h.q hO0
  have n1 := h.n1
  have l1 := h.l1
  refine ⟨fun k => k = k1, rfl, la, h0.b1.at0 0 rfl, _, h0.b0.at0 0 rfl, (sact_c h0.r).mono ?_⟩
  rintro _ w1 ⟨cs, rfl, hx, h1⟩
  have hb1 := h0.nx h1
  generalize hac : (actS ts s).1 = ac at *
  generalize (actS ts s).2 = s1 at *
  have hx' := hx
  obtain ⟨xc, rfl, hxe⟩ := hx'
  obtain ⟨sl, rfl⟩ := rE_cells hxe
  have hsm := h.r.sm
  have hl0 := h0.own.len
  obtain ⟨y, w2, e2, hO2, la', w3, e3, hown, ⟨gs, hO3, hgs⟩, _⟩ := app_one (P := Tryz.prog) (t := 41) (ty := 41) (e := 158) (i := Tryz.t158) (bytes := 104) (size := 9) (v := .agg (acv ac.k ac.n (exv ac.x.k ac.x.n ac.x.s ac.x.op sl ac.x.a) ac.a).toArray) (x := ac) (G := Fr w0.heap.size) (by kernel_rfl) (by kernel_rfl) rfl rfl rfl rfl (by decide) (by decide) (by decide) (rAc_ok true) hb1.own hb1.lB rfl hx (fun k hk _ => ⟨Nat.le_trans h0.lB hk, h0.own.new hk⟩) (by omega)
  have hO3' : Only gs w1 w3 := (hO2.weaken (bs' := gs) fun _ h => (by cases h)).trans hO3 fun x hx => .inl hx
  have hgs' : ∀ g, g ∈ gs → B ≤ g := fun g hg => (hgs g hg).2.1
  refine ⟨_, _, _, _, _, _, sl, _, _, rfl, fun k hk hlt => (by subst hk; exact h1.o.block k hlt (by simp only [List.mem_singleton]; omega)), y, w2, e2, Keeps.only hO2, la', w3, e3, fun k hk hlt => (by subst hk; exact hO3.block k hlt fun hm => (by have := hgs' k hm; omega)), k1, 0, _, _, rfl, hO3'.blk hb1.b1 (fun hm => by have := hgs' k1 hm; omega), by simp, fun w4 hO4 hB4 => ⟨rfl, la', ?_⟩⟩
  have n0 := h.n0
  have n01 := h.n01
  have l0 := h.l0
  have z3 := hO3'.size
  have z4 := hO4.size
  have hlB := hb1.lB
  have hOb : ∀ {x : Nat}, x < B → x ≠ k1 → w4.heap[x]? = w1.heap[x]? := fun hx hn => (hO4.block _ (by omega) (by simpa using hn)).trans (hO3'.block _ (by omega) fun hm => (by have := hgs' _ hm; omega))
  obtain ⟨gs0, o1, o2⟩ := hb1.o
  have hr3 : Sr F ts w3 b l s1 := hb1.r.own hO3' fun x hx => (by have := hgs' x hx; omega)
  refine ⟨hr3.one hO4 n1, (hOb l0 n01).trans hb1.b0, hB4, ?_, ⟨gs ++ gs0, (((o1.weaken (bs' := b :: k1 :: (gs ++ gs0)) fun x hx => .inl (by simp only [List.mem_cons, List.mem_append] at hx ⊢; rcases hx with hx | hx | hx <;> simp [hx])).trans hO3' fun x hx => .inl (by simp [hx]))).trans hO4 fun x hx => .inl (by simp only [List.mem_singleton] at hx; simp [hx]), fun x hx => ?_⟩, n0, n1, n01, l0, l1, by omega⟩
  · refine ((hown.mono (rAc_ok true) fun k hk => ?_).stay (rAc_ok true) hO4 fun x hx => .inl (by simp only [List.mem_singleton] at hx; omega))
    rcases hk with hk | hk
    · exact hk
    · exact Nat.le_trans hlB hk
  · rcases List.mem_append.1 hx with hx | hx
    · exact hgs' x hx
    · exact o2 x hx
/-- acts up to '}' -/
theorem suntil_c (f : Nat) (h : Br F ts w w' b l k0 k1 B s acc la) (hf : mu ts s < f) (hm : acc.length + mu ts s ≤ ts.length) :
    Calls Tryz.prog 122 #[rp b, .string (ByteArray.mk #[125]), .func (.func 123) #[] #[.pointer (some ⟨k1, 0, none⟩), .pointer (some ⟨k0, 0, none⟩)]] w' fun e w2 => e = .returned (.tuple #[]) ∧ ∃ la', Br F ts w w2 b l k0 k1 B (actsS ts f acc s).2 (actsS ts f acc s).1 la' := by
  refine ret (syntax_reader_until_wp ⟨b, 0, none⟩ _ ⟨.func (.func 123) #[] #[.pointer (some ⟨k1, 0, none⟩), .pointer (some ⟨k0, 0, none⟩)], rfl⟩ (fun v w2 => v = (.tuple #[]) ∧ ∃ la', Br F ts w w2 b l k0 k1 B (actsS ts f acc s).2 (actsS ts f acc s).1 la') w' ?_)
  unfold syntax_reader_until_vc
  generalize hres : actsS ts f acc s = res
  refine ⟨fun nv w2 => ∃ s' acc' la', Br F ts w w2 b l k0 k1 B s' acc' la' ∧ actsS ts nv acc' s' = res ∧ mu ts s' < nv ∧ acc'.length + mu ts s' ≤ ts.length, f, ⟨s, acc, la, h, hres, hf, hm⟩, ?_⟩
  rintro nv w0 ⟨s', acc', la', h0, hR, hf0, hm0⟩
  obtain ⟨m, rfl⟩ : ∃ m, nv = m + 1 := ⟨nv - 1, by omega⟩
  rw [actsS] at hR
  refine ⟨fun bo w2 => (bo = true ∧ s'.fc = 0 ∧ whichS ts s' [[125]] = 0 ∧ Br F ts w w2 b l k0 k1 B s' acc' la') ∨ (bo = false ∧ Br F ts w w2 b l k0 k1 B res.2 res.1 la'), ?_, (sfine_c h0.r).mono ?_⟩
  · rintro bo w1 (⟨rfl, hfc, hw, h1⟩ | ⟨rfl, h1⟩)
    · refine ⟨fun _ => ⟨123, [], [_, _], rfl, fnOk_run (by kernel_rfl), ?_⟩, fun hh => (by cases hh)⟩
      rw [if_neg (by simp [hfc]), if_neg (by simp [hw])] at hR
      have hmu := act_mu h0.r.en hfc h0.r.lt
      have hmm : mu ts s' ≤ ts.length := by unfold mu; split <;> omega
      refine (blk1_c h1 (by omega)).mono ?_
      rintro _ w3 ⟨rfl, la2, h3⟩
      exact ⟨rfl, m, by omega, _, _, la2, h3, hR, by omega, by rw [List.length_append, List.length_singleton]; omega⟩
    · exact ⟨fun hh => (by cases hh), fun _ => ⟨rfl, la', h1⟩⟩
  · rintro _ w4 ⟨rfl, hO4⟩
    have h4 := h0.q hO4
    refine ⟨_, rfl, fun hc => ?_, fun hc => ?_⟩
    · have hc : s'.fc = 0 := by simpa using hc
      rw [if_neg (by simp [hc])] at hR
      obtain ⟨q, w5, e1, hO5, hk⟩ := stk_c h4.r [[125]] (n := 1) (parts := #[(0, .string (T [125]))]) rfl rfl (by decide) (by decide)
      refine ⟨q, w5, e1, hk.mono ?_⟩
      rintro _ w6 ⟨rfl, h6⟩
      have h6 := (h4.q hO5).nx h6
      refine ⟨_, rfl, ?_⟩
      by_cases hw : whichS ts s' [[125]] = 0
      · rw [if_pos hw] at h6
        exact .inl ⟨by rw [hw]; rfl, hc, hw, h6⟩
      · rw [if_neg hw] at h6
        rw [if_pos hw] at hR
        subst hR
        exact .inr ⟨by simpa using hw, h6⟩
    · have hc : s'.fc ≠ 0 := by simpa using hc
      rw [if_pos hc] at hR
      subst hR
      exact .inr ⟨rfl, h4⟩
end
theorem sblock_c (h : Sr F ts w b l s) : Calls Tryz.prog 109 #[rp b] w fun e w' => ∃ la : Sl, e = .returned la.v ∧ SlG true (rAc true) 9 158 w' (Fr w.heap.size) la (blockS ts s).1 ∧ Dn F ts w w' b l (blockS ts s).2 := by
  refine (syntax_reader_block_wp ⟨b, 0, none⟩ (fun v w' => ∃ la : Sl, v = la.v ∧ SlG true (rAc true) 9 158 w' (Fr w.heap.size) la (blockS ts s).1 ∧ Dn F ts w w' b l (blockS ts s).2) w ?_).mono (by
    rintro e w' ⟨v, rfl, cs, rfl, h⟩; exact ⟨cs, rfl, h⟩)
  unfold syntax_reader_block_vc
  intro k0 k1 w0 hk0 hk0' hk1 hk1' hO0
  have t0 := ((h.zt.q hO0).ad hk0 hk0').ad hk1 hk1'
  obtain ⟨q, w1, e1, hO1, hm⟩ := sms_c t0.r [123]
  refine ⟨q, w1, e1, t0.sq hO1 (by simp), hm.mono ?_⟩
  rintro _ w2 ⟨rfl, h2⟩
  have t1 := t0.q hO1
  have t2 := t1.nx h2
  refine ⟨rfl, t1.sc h2 (by simp), fun hB0 hB1 => ?_⟩
  have hb := h.lb
  have hB : Br F ts w2 w2 b l k0 k1 w2.heap.size (mustS ts s [123]) [] Sl.nil :=
    ⟨t2.r, hB0, hB1, Own.nil _ _ _ _ _ _, ⟨[], Only.refl _ _, fun _ h => (by cases h)⟩, by omega, by omega, fun e => (by subst e; have := hB0.symm.trans hB1; simp at this), hB0.lt, hB1.lt, Nat.le_refl _⟩
  refine (suntil_c (ts.length + 1) hB (by unfold mu; split <;> omega) (by rw [List.length_nil, Nat.zero_add]; unfold mu; split <;> omega)).mono ?_
  rintro _ w3 ⟨rfl, la, h3⟩
  have z2 := t2.z.o.size
  obtain ⟨gs, o1, o2⟩ := h3.o
  refine ⟨rfl, _, h3.b0, _, h3.b1, la, rfl, ?_, ?_, h3.r⟩
  · exact (h3.own.sl (rAc_ok true) fun k hk => hk).low (rAc_ok true) z2
  · exact t2.z.o.trans o1 fun x hx => by
      simp only [List.mem_cons] at hx
      rcases hx with rfl | rfl | hx
      · exact .inl (by simp)
      · exact .inr hk1
      · exact .inr (Nat.le_trans z2 (o2 x hx))
end
end Go.Proofs.YtmanockofcopjaaGreatDoor.Con

namespace Go.Proofs.YtmanockofcopjaaGreatDoor.Con
open Go Go.RowKit Go.Kt Go.Kt.V Go.Proofs.YtmanockofcopjaaGreatDoor.Vc
set_option linter.unusedSimpArgs false
set_option linter.unusedVariables false
set_option maxHeartbeats 4000000

section
variable {F : Nat → Prop} {ts : List Tk} {w w' : World} {b : Nat} {l : Sl} {s s' : Sx}
/-- a move's cells, but for its targets -/
structure MvX (A : Nat) (w : World) (m : Mv) (k : Int) (ev : ByteArray) (wt : Int) (gd : Bool) (gc : List Value) (asl : Sl) (a : Int) : Prop where
  e1 : k = m.k
  e2 : ev = T m.ev
  e3 : wt = m.wt
  e4 : gd = m.gd
  e5 : a = m.a
  g : rE true w (Fr A) m.g gc
  x : SlG true (rAc true) 9 158 w (Fr A) asl m.acts
theorem MvX.stay {A : Nat} {m : Mv} {k : Int} {ev : ByteArray} {wt : Int} {gd : Bool} {gc : List Value} {asl : Sl} {a : Int} (h : MvX A w m k ev wt gd gc asl a) (hs : Stay A w w') : MvX A w' m k ev wt gd gc asl a :=
  ⟨h.e1, h.e2, h.e3, h.e4, h.e5, (rE_ok true).stay h.g hs, h.x.stay (rAc_ok true) (by decide) hs⟩
theorem mu_le (ts : List Tk) (s : Sx) : mu ts s ≤ ts.length := by unfold mu; split <;> omega
theorem which_next (h : Sr F ts w b l s) {ss : List (List UInt8)} (hw : whichS ts s ss ≠ 0) : s.i + 1 < ts.length := h.en.next h.lt (which_ne hw).2
theorem smove_c (h : Sr F ts w b l s) (k : Int) (hk : (tk ts s.i).k ≠ 5) : Calls Tryz.prog 107 #[rp b, .int .i64 k] w fun e w' => ∃ cs, e = .returned (.agg cs.toArray) ∧ rMv true w' (Fr w.heap.size) (moveS ts k s).1 cs ∧ Dn F ts w w' b l (moveS ts k s).2 := by
  refine (syntax_reader_move_wp ⟨b, 0, none⟩ k (fun v w' => ∃ cs, v = (.agg cs.toArray) ∧ rMv true w' (Fr w.heap.size) (moveS ts k s).1 cs ∧ Dn F ts w w' b l (moveS ts k s).2) w ?_).mono (by
    rintro e w' ⟨v, rfl, cs, rfl, h⟩; exact ⟨cs, rfl, h⟩)
  unfold syntax_reader_move_vc
  intro k0 w0 hk0 hk0' hO0
  have t0 := h.zt.al hO0 hk0 hk0'
  obtain ⟨ad, g1, g2⟩ := t0.r.now
  refine ⟨fun _ => True, trivial, l, Blk.at1 t0.r.blk 0 rfl, trivial, _, Blk.at1 t0.r.blk 1 rfl, ad, g1, trivial, _, g2.at1 3 _ rfl, fun k1 w1 hk1 hk1' hO1 => ?_⟩
  have t1 := t0.al hO1 hk1 hk1'
  refine (useM_c t1.r).mono ?_
  rintro _ w2 ⟨rfl, h2⟩
  have t2 := t1.nx h2
  refine ⟨rfl, t1.sc h2 (by simp), (sfine_c t2.r).mono ?_⟩
  rintro _ w3 ⟨rfl, hO3⟩
  have t3 := t2.q hO3
  unfold moveS
  refine ⟨_, rfl, t2.sq hO3 (by simp), fun hf w4 hO4 => ?_, fun hf => ?_⟩
  · have hf : (useM ts s).fc ≠ 0 := by simpa using hf
    rw [if_pos hf]
    exact ⟨_, rfl, ⟨exv 0 0 [] 0 Sl.nil 0, Sl.nil, Sl.nil, rfl, rE0 _ _ _, SlG.nil _ _ _ _ _ _, SlG.nil _ _ _ _ _ _⟩, (t3.f hO4 (by simp)).dn⟩
  have hf : ¬ (useM ts s).fc ≠ 0 := by simpa using hf
  rw [if_neg hf]
  refine ⟨_, Blk.at1 t3.r.blk 1 rfl, b, 1, _, _, rfl, t3.r.blk, by simp, t3.ne (by simp), t3.ne (by simp), fun w5 hO5 hB5 => ?_⟩
  rw [t3.r.wr] at hB5
  have t5 : Zt F ts w w5 b l (nextS (useM ts s)) [k1, k0] := t3.up hO5 hB5 (h.en.next t3.r.lt (by rw [useM_i]; exact hk))
  have hA := t5.z.o.size
  have hA0 := (t5.z.k k0 (by simp)).2
  have hA1 := (t5.z.k k1 (by simp)).2
  have hAb := t5.r.lb
  generalize hAA : w5.heap.size = A at *
  generalize (tk ts s.i).a = aa at *
  generalize nextS (useM ts s) = u0 at *
  generalize hR : (if k = 1 then moveA ts { mv0 k aa with ev := (nameS ts u0).1 } (nameS ts u0).2 else if k = 3 then moveA ts { mv0 k aa with wt := (kindS ts u0 3).1.n } (kindS ts u0 3).2 else moveA ts (mv0 k aa) u0) = R
  have x0 : ∀ {w' : World} {ev : List UInt8} {wt : Int}, MvX A w' { mv0 k aa with ev := ev, wt := wt } k (T ev) wt false (exv 0 0 [] 0 Sl.nil 0) Sl.nil aa := ⟨rfl, rfl, rfl, rfl, rfl, rE0 _ _ _, SlG.nil _ _ _ _ _ _⟩
  refine ⟨fun i3 s0 i4 b1 i5 i6 s1 i7 l1 i8 l2 l3 i9 w' => ∃ (m : Mv) (u : Sx), MvX A w' m i3 s0 i4 b1 [.int .i64 i5, .int .i64 i6, .string s1, .int .i64 i7, l1.v, .int .i64 i8] l2 i9 ∧ m.gd = false ∧ m.tg = [] ∧ l3 = Sl.nil ∧ Zt F ts w w' b l u [k1, k0] ∧ moveA ts m u = R ∧ A ≤ w'.heap.size, ?_, fun hc => ?_, fun hc => ⟨fun hc2 => ?_, fun hc2 => ?_⟩⟩
  rotate_left
  · have hc : k = 1 := by simpa using hc
    refine (sname_c t5.r).mono ?_
    rintro _ w32 ⟨rfl, h32⟩
    have t32 := t5.nx h32
    refine ⟨_, rfl, t5.sc h32 (by simp), fun w33 hO33 => ?_⟩
    rw [if_pos hc] at hR
    exact ⟨_, _, x0, rfl, rfl, rfl, t32.f hO33 (by simp), hR, by rw [← hAA]; exact Nat.le_trans h32.o.size hO33.size⟩
  · have hc : ¬ k = 1 := by simpa using hc
    have hc2 : k = 3 := by simpa using hc2
    refine (skind_c t5.r (k := 3) (by decide)).mono ?_
    rintro _ w34 ⟨rfl, h34⟩
    have t34 := t5.nx h34
    refine ⟨_, _, _, _, rfl, t5.sc h34 (by simp), fun w35 hO35 => ?_⟩
    rw [if_neg hc, if_pos hc2] at hR
    exact ⟨_, _, x0, rfl, rfl, rfl, t34.f hO35 (by simp), hR, by rw [← hAA]; exact Nat.le_trans h34.o.size hO35.size⟩
  · have hc : ¬ k = 1 := by simpa using hc
    have hc2 : ¬ k = 3 := by simpa using hc2
    rw [if_neg hc, if_neg hc2] at hR
    exact ⟨_, _, x0, rfl, rfl, rfl, t5, hR, Nat.le_of_eq hAA.symm⟩
  rintro i3 s0 i4 b1 i5 i6 s1 i7 l1 i8 l2 l3 i9 w6 ⟨m, u, hx, hgd, htg, rfl, t6, hR, z6⟩
  unfold moveA at hR
  obtain ⟨q, w24, e1, hO24, hm⟩ := stk_c t6.r [[91]] (n := 1) (parts := #[(0, .string (T [91]))]) rfl rfl (by decide) (by decide)
  have t24 := t6.q hO24
  refine ⟨fun i3 s0 i4 b1 i5 i6 s1 i7 l1 i8 l2 l3 i9 w' => ∃ (m : Mv) (u : Sx), MvX A w' m i3 s0 i4 b1 [.int .i64 i5, .int .i64 i6, .string s1, .int .i64 i7, l1.v, .int .i64 i8] l2 i9 ∧ m.tg = [] ∧ l3 = Sl.nil ∧ Zt F ts w w' b l u [k1, k0] ∧ moveB ts m u = R ∧ A ≤ w'.heap.size, ?_, q, w24, e1, t6.sq hO24 (by simp), hm.mono ?_⟩
  rotate_left
  · rintro _ w25 ⟨rfl, h25⟩
    have t25 := t24.nx h25
    have s25 : Stay A w6 w25 := ((Stay.refl A w6).q hO24).d h25 hAb
    refine ⟨_, rfl, t24.sc h25 (by simp), fun hc w26 hO26 => ?_, fun hc w31 hO31 => ?_⟩
    · have hc' := pos1 hc
      rw [if_neg hc'] at hR t25
      have t26 := t25.f hO26 (by simp)
      have s26 := s25.f hO26 (.inl hA1)
      have z26 := s26.sz
      refine (sexpr_c t26.r).mono ?_
      rintro _ w27 ⟨cs, rfl, hg, h27⟩
      obtain ⟨sl, rfl⟩ := rE_cells hg
      have t27 := t26.nx h27
      refine ⟨_, _, _, _, sl, _, rfl, t26.sc h27 (by simp), fun w28 hO28 => ?_⟩
      have t28 := t27.f hO28 (by simp)
      obtain ⟨q2, w29, e2, hO29, hm2⟩ := sms_c t28.r [93]
      have t29 := t28.q hO29
      refine ⟨q2, w29, e2, t28.sq hO29 (by simp), hm2.mono ?_⟩
      rintro _ w30 ⟨rfl, h30⟩
      have t30 := t29.nx h30
      have s30 := (((s26.d h27 hAb).f hO28 (.inl hA1)).q hO29).d h30 hAb
      refine ⟨rfl, t29.sc h30 (by simp), { m with gd := true, g := (exprS ts (nextS u)).1 }, _, ⟨hx.e1, hx.e2, hx.e3, hc, hx.e5, ?_, hx.x.stay (rAc_ok true) (by decide) s30⟩, htg, rfl, t30, hR, Nat.le_trans z6 s30.sz⟩
      exact (rE_ok true).low ((rE_ok true).stay hg ((((Stay.refl _ _).f hO28 (.inl (by omega))).q hO29).d h30 (by omega))) (by omega)
    · have hc' := pos0 hc
      rw [if_pos hc'] at hR t25
      have s31 := s25.f hO31 (.inl hA1)
      have hx31 := hx.stay s31
      exact ⟨m, u, ⟨hx31.e1, hx31.e2, hx31.e3, by rw [hc, hgd], hx31.e5, hx31.g, hx31.x⟩, htg, rfl, t25.f hO31 (by simp), hR, Nat.le_trans z6 s31.sz⟩
  clear hx hgd htg t6 hR z6 hm t24
  rintro i3 s0 i4 b1 i5 i6 s1 i7 l1 i8 l2 l3 i9 w7 ⟨m, u, hx, htg, rfl, t7, hR, z7⟩
  unfold moveB at hR
  obtain ⟨q, w20, e1, hO20, hm⟩ := swh_c t7.r [[123]] (n := 1) (parts := #[(0, .string (T [123]))]) rfl rfl (by decide) (by decide)
  have t20 := t7.q hO20
  refine ⟨fun i3 s0 i4 b1 i5 i6 s1 i7 l1 i8 l2 l3 i9 w' => ∃ (m : Mv) (u : Sx), MvX A w' m i3 s0 i4 b1 [.int .i64 i5, .int .i64 i6, .string s1, .int .i64 i7, l1.v, .int .i64 i8] l2 i9 ∧ l3 = Sl.nil ∧ Zt F ts w w' b l u [k1, k0] ∧ moveC ts m u = R ∧ A ≤ w'.heap.size, ?_, q, w20, e1, t7.sq hO20 (by simp), hm.mono ?_⟩
  rotate_left
  · rintro _ w21 ⟨rfl, hO21⟩
    have t21 := t20.q hO21
    have s21 : Stay A w7 w21 := ((Stay.refl A w7).q hO20).q hO21
    have z21 := s21.sz
    refine ⟨_, rfl, t20.sq hO21 (by simp), fun hc => (sblock_c t21.r).mono ?_, fun hc => ?_⟩
    · rw [if_neg (pos1 hc)] at hR
      rintro _ w22 ⟨la, rfl, hla, h22⟩
      have t22 := t21.nx h22
      refine ⟨la, rfl, t21.sc h22 (by simp), fun w23 hO23 => ?_⟩
      have s23 := (s21.d h22 hAb).f hO23 (.inl hA1)
      refine ⟨{ m with acts := (blockS ts u).1 }, _, ⟨hx.e1, hx.e2, hx.e3, hx.e4, hx.e5, (rE_ok true).stay hx.g s23, ?_⟩, rfl, t22.f hO23 (by simp), hR, Nat.le_trans z7 s23.sz⟩
      exact (hla.stay (rAc_ok true) (by decide) ((Stay.refl _ _).f hO23 (.inl (by omega)))).low (rAc_ok true) (by omega)
    · rw [if_pos (pos0 hc)] at hR
      exact ⟨m, u, hx.stay s21, rfl, t21, hR, Nat.le_trans z7 z21⟩
  clear hx htg t7 hR z7 hm t20
  rintro i17 s4 i18 b3 i19 i20 s5 i21 l7 i22 l8 l9 i23 w8 ⟨m, u, hx, rfl, t8, hR, z8⟩
  unfold moveC at hR
  have hb8 : b < w8.heap.size := by omega
  refine ⟨fun nv sg i24 s7 i25 b4 i26 i27 s8 i28 l10 i29 l11 l12 i30 w' => ∃ (x : List UInt8) (acc : List (List UInt8)) (u' : Sx), sg = T x ∧ MvX A w8 m i24 s7 i25 b4 [.int .i64 i26, .int .i64 i27, .string s8, .int .i64 i28, l10.v, .int .i64 i29] l11 i30 ∧ Stay A w8 w' ∧ Own rTx 1 9 w8.heap.size w' (Fr w8.heap.size) l12 acc ∧ Zt F ts w w' b l u' [k1, k0] ∧ targS ts nv x acc u' = targS ts (ts.length + 1) [45, 62] [] u ∧ mu ts u' < nv ∧ acc.length + mu ts u' ≤ ts.length, ts.length + 1, ⟨[45, 62], [], u, rfl, hx, Stay.refl _ _, Own.nil _ _ _ _ _ _, t8, rfl, Nat.lt_succ_of_le (mu_le _ _), by rw [List.length_nil, Nat.zero_add]; exact mu_le _ _⟩, ?_⟩
  clear hx
  rintro nv sg i24 s7 i25 b4 i26 i27 s8 i28 l10 i29 l11 l12 i30 w9 ⟨x, acc, u', rfl, hx, hS, hown, t9, hT, hf1, hm1⟩
  obtain ⟨m', rfl⟩ : ∃ m', nv = m' + 1 := ⟨nv - 1, by omega⟩
  rw [targS] at hT
  obtain ⟨q, w10, e1, hO10, hm2⟩ := stk_c t9.r [x] (n := 1) (parts := #[(0, .string (T x))]) rfl rfl (by decide) (by decide)
  have t10 := t9.q hO10
  refine ⟨q, w10, e1, t9.sq hO10 (by simp), hm2.mono ?_⟩
  rintro _ w11 ⟨rfl, h11⟩
  have t11 := t10.nx h11
  refine ⟨_, rfl, t10.sc h11 (by simp), fun hc w12 hO12 => ?_, fun hc => ?_⟩
  · have hc := pos1 hc
    rw [if_neg hc] at hT t11
    have t12 := t11.q hO12
    refine ⟨fun k => k = k1, rfl, (sname_c t12.r).mono ?_⟩
    rintro _ w13 ⟨rfl, h13⟩
    have t13 := t12.nx h13
    have hO9 : Only [b] w9 w13 := (((hO10.weaken (bs' := [b]) fun _ h => (by cases h)).trans h11.o fun x hx => .inl hx).tr0 hO12).trans h13.o fun x hx => .inl hx
    have zS := hS.sz
    have z9 := hO9.size
    have hsm := h.sm
    have hml := mu_le ts u'
    have hmu := next_mu h.en (which_ne hc).1 t9.r.lt (which_ne hc).2 (name_on h.en (s := nextS u')).toOn0
    obtain ⟨y, w14, e2, hO14, la', w15, e3, hown', ⟨gs, hO15, hgs⟩, _⟩ := app_one (P := Tryz.prog) (t := 25) (ty := 25) (e := 9) (i := Tryz.t9) (bytes := 16) (size := 1) (v := .string (T (nameS ts (nextS u')).1)) (x := (nameS ts (nextS u')).1) (G := fun _ => False) (by kernel_rfl) (by kernel_rfl) rfl rfl rfl rfl (by decide) (by decide) (by decide) rTx_ok (hown.stay rTx_ok hO9 fun x hx => .inl (by simp only [List.mem_singleton] at hx; omega)) (Nat.le_trans zS z9) rfl rfl (fun k hk _ => hk.elim) (by omega)
    have hgs' : ∀ g, g ∈ gs → w8.heap.size ≤ g := fun g hg => (hgs g hg).2.1
    have z8w := t8.z.o.size
    have t14 := t13.q hO14
    have t15 := t14.row hO15 fun x hx => Nat.le_trans z8w (hgs' x hx)
    have nk := t8.ne (k0 := k1) (by simp)
    refine ⟨_, rfl, t12.sc h13 (by simp), fun k hk hlt => (by subst hk; exact h13.o.block k hlt (by simpa using nk)), y, w14, e2, t13.sq hO14 (by simp), Keeps.only hO14, la', w15, e3, t14.sr hO15 (by simp) (fun x hx y hy => ?_), fun k hk hlt => (by subst hk; exact hO15.block k hlt fun hm => (by have := hgs' k hm; omega)), fun w16 hO16 => ⟨m', by omega, [44], _, _, rfl, hx, ?_, ?_, t15.f hO16 (by simp), hT, by omega, ?_⟩⟩
    · have := hgs' x hx
      simp only [List.mem_cons, List.not_mem_nil, or_false] at hy
      omega
    · exact (((hS.go hO9 fun x hx => .inl (by simp only [List.mem_singleton] at hx; omega)).q hO14).go hO15 fun x hx => .inr (hgs' x hx)).f hO16 (.inl hA1)
    · refine ((hown'.mono rTx_ok fun k hk => ?_).stay rTx_ok hO16 fun x hx => .inl (by simp only [List.mem_singleton] at hx; omega))
      rcases hk with hk | hk
      · exact hk
      · exact Nat.le_trans (Nat.le_trans zS z9) hk
    · rw [List.length_append, List.length_singleton]; omega
  · have hc := pos0 hc
    rw [if_pos hc] at hT t11
    obtain ⟨q2, w17, e2, hO17, hm3⟩ := sms_c t11.r [59]
    have t17 := t11.q hO17
    refine ⟨q2, w17, e2, t11.sq hO17 (by simp), hm3.mono ?_⟩
    rintro _ w18 ⟨rfl, h18⟩
    have t18 := t17.nx h18
    refine ⟨rfl, t17.sc h18 (by simp), fun w19 hO19 => ?_⟩
    rw [← hT] at hR
    rw [← hR]
    have s9 : ∀ {B : Nat}, b < B → k0 < B → Stay B w9 w19 := fun hb hk => ((((Stay.refl _ _).q hO10).d h11 hb).q hO17).d h18 hb |>.f hO19 (.inl hk)
    have s19 : Stay A w8 w19 := (((((hS.q hO10).d h11 hAb).q hO17).d h18 hAb).f hO19 (.inl hA0))
    refine ⟨mvv m.k m.ev m.wt m.gd [.int .i64 i26, .int .i64 i27, .string s8, .int .i64 i28, l10.v, .int .i64 i29] l11 l12 m.a, by rw [hx.e1, hx.e2, hx.e3, hx.e4, hx.e5]; rfl, ⟨_, _, _, rfl, (rE_ok true).low ((rE_ok true).stay hx.g s19) hA, (hx.x.stay (rAc_ok true) (by decide) s19).low (rAc_ok true) hA, ?_⟩, (t18.f hO19 (by simp)).dn⟩
    exact ((hown.sl rTx_ok fun k hk => hk).stay rTx_ok (by decide) (s9 hb8 (by omega))).low rTx_ok (by omega)
end
end Go.Proofs.YtmanockofcopjaaGreatDoor.Con

namespace Go.Proofs.YtmanockofcopjaaGreatDoor.Con
open Go Go.RowKit Go.Kt Go.Kt.V Go.Proofs.YtmanockofcopjaaGreatDoor.Vc
set_option linter.unusedSimpArgs false
set_option linter.unusedVariables false
set_option maxHeartbeats 4000000

theorem pre_get {pre xs : List Value} {j : Nat} {v : Value} (h : xs[j]? = some v) : (pre ++ xs)[pre.length + j]? = some v := by
  rw [List.getElem?_append_right (by omega), Nat.add_sub_cancel_left]; exact h
theorem pre_splice (pre xs vs : List Value) (j : Nat) : splice (pre ++ xs) (pre.length + j) vs = pre ++ splice xs j vs := by
  unfold splice
  rw [List.take_length_add_append, Nat.add_assoc, List.drop_length_add_append]
  simp only [List.append_assoc]
/-- the rows of a node that is being read: the moves' row grows -/
structure NbO (B : Nat) (w : World) (n : Nb) (en lv mv : Sl) : Prop where
  en : SlG true (rAc true) 9 158 w (fun k => B ≤ k ∧ mv.a ≠ some ⟨k, 0, none⟩) en n.en
  lv : SlG true (rAc true) 9 158 w (fun k => B ≤ k ∧ mv.a ≠ some ⟨k, 0, none⟩) lv n.lv
  mv : Own (rMv true) 13 75 B w (Fr B) mv n.mv
section
variable {B : Nat} {w w' : World} {n : Nb} {en lv mv : Sl}
theorem NbO.go (h : NbO B w n en lv mv) {bs : List Nat} (k : Only bs w w') (hb : ∀ x, x ∈ bs → x < B) : NbO B w' n en lv mv :=
  ⟨h.en.keep (rAc_ok true) (by decide) fun i hi hlt => k.block i hlt fun hm => (by have := hb i hm; omega), h.lv.keep (rAc_ok true) (by decide) fun i hi hlt => k.block i hlt fun hm => (by have := hb i hm; omega), h.mv.stay (rMv_ok true) k fun x hx => .inl (hb x hx)⟩
theorem NbO.app (h : NbO B w n en lv mv) {gs : List Nat} {mv' : Sl} {m : Mv} (hown : Own (rMv true) 13 75 B w' (fun k => Fr B k ∨ w.heap.size ≤ k) mv' (n.mv ++ [m])) (k : Only gs w w') (hgs : ∀ g, g ∈ gs → mv.a = some ⟨g, 0, none⟩) (ha : mv'.a = mv.a ∨ ∃ g, mv'.a = some ⟨g, 0, none⟩ ∧ w.heap.size ≤ g) (hB : B ≤ w.heap.size) : NbO B w' { n with mv := n.mv ++ [m] } en lv mv' := by
  have go : ∀ {la : Sl} {xs : List Ac}, SlG true (rAc true) 9 158 w (fun k => B ≤ k ∧ mv.a ≠ some ⟨k, 0, none⟩) la xs → SlG true (rAc true) 9 158 w' (fun k => B ≤ k ∧ mv'.a ≠ some ⟨k, 0, none⟩) la xs := fun hx =>
    ((hx.inHeap (rAc_ok true) (by decide)).keep (rAc_ok true) (by decide) fun i hi hlt => k.block i hlt fun hm => hi.1.2 (hgs i hm)).mono (rAc_ok true) fun i hi => ⟨hi.1.1, by
      rcases ha with ha | ⟨g, ha, hg⟩
      · rw [ha]; exact hi.1.2
      · rw [ha]
        intro e
        injection e with e
        injection e with e
        have := hi.2
        omega⟩
  exact ⟨go h.en, go h.lv, hown.mono (rMv_ok true) fun i hi => hi.elim id fun hi => Nat.le_trans hB hi⟩
theorem NbO.setEn (h : NbO B w n en lv mv) {A : Nat} {la : Sl} {xs : List Ac} (hx : SlG true (rAc true) 9 158 w (Fr A) la xs) (hA : B ≤ A) (hm : ∀ k, A ≤ k → mv.a ≠ some ⟨k, 0, none⟩) : NbO B w { n with en := xs } la lv mv :=
  ⟨hx.mono (rAc_ok true) fun k hk => ⟨Nat.le_trans hA hk, hm k hk⟩, h.lv, h.mv⟩
theorem NbO.setLv (h : NbO B w n en lv mv) {A : Nat} {la : Sl} {xs : List Ac} (hx : SlG true (rAc true) 9 158 w (Fr A) la xs) (hA : B ≤ A) (hm : ∀ k, A ≤ k → mv.a ≠ some ⟨k, 0, none⟩) : NbO B w { n with lv := xs } en la mv :=
  ⟨h.en, hx.mono (rAc_ok true) fun k hk => ⟨Nat.le_trans hA hk, hm k hk⟩, h.mv⟩
end
abbrev hadv (h : Had) : List Value := [.bool false, .bool h.i, .bool h.e, .bool h.l]
/-- a node that is being read, and its reader -/
structure Cl (F : Nat → Prop) (ts : List Tk) (w w' : World) (b : Nat) (l : Sl) (g t : Nat) (pre : List Value) (kh B : Nat) (s : Sx) (n : Nb) (h : Had) (en lv mv : Sl) : Prop where
  r : Sr F ts w' b l s
  nb : Blk w' g t (pre ++ ndv n.k n.nm n.ini n.dft en lv mv Sl.nil n.a)
  hb : Blk w' kh 124 (hadv h)
  no : NbO B w' n en lv mv
  o : ∃ gs, Only (b :: g :: kh :: gs) w w' ∧ ∀ x, x ∈ gs → B ≤ x
  ng : g ≠ b ∧ ¬ F g
  nh : b < kh
  gh : g ≠ kh
  gB : g < B
  hB : kh < B
  lB : B ≤ w'.heap.size
section
variable {F : Nat → Prop} {ts : List Tk} {w w' w2 : World} {b : Nat} {l : Sl} {g t : Nat} {pre : List Value} {kh B : Nat} {s s' : Sx} {n n' : Nb} {h h' : Had} {en lv mv en' lv' mv' : Sl}
theorem Cl.nx (c : Cl F ts w w' b l g t pre kh B s n h en lv mv) (k : Dn F ts w' w2 b l s') : Cl F ts w w2 b l g t pre kh B s' n h en lv mv := by
  have ng := c.ng
  have nh := c.nh
  have gB := c.gB
  have hBl := c.hB
  obtain ⟨gs, h1, h2⟩ := c.o
  exact ⟨k.r, k.o.blk c.nb (by simp only [List.mem_singleton]; omega), k.o.blk c.hb (by simp only [List.mem_singleton]; omega), c.no.go k.o fun x hx => (by simp only [List.mem_singleton] at hx; omega),
    ⟨gs, h1.trans k.o fun x hx => .inl (by simp only [List.mem_singleton] at hx; simp [hx]), h2⟩, ng, nh, c.gh, gB, c.hB, Nat.le_trans c.lB k.o.size⟩
theorem Cl.q (c : Cl F ts w w' b l g t pre kh B s n h en lv mv) (k : Only [] w' w2) : Cl F ts w w2 b l g t pre kh B s n h en lv mv := c.nx (c.r.dn.q k)
theorem Cl.st (c : Cl F ts w w' b l g t pre kh B s n h en lv mv) (k : Only [g] w' w2) (hB : Blk w2 g t (pre ++ ndv n'.k n'.nm n'.ini n'.dft en' lv' mv' Sl.nil n'.a)) (no : NbO B w' n' en' lv' mv') : Cl F ts w w2 b l g t pre kh B s n' h en' lv' mv' := by
  obtain ⟨gs, h1, h2⟩ := c.o
  have gB := c.gB
  exact ⟨c.r.far1 k c.ng, hB, k.blk c.hb (by simpa using fun e => c.gh e.symm), no.go k fun x hx => (by simp only [List.mem_singleton] at hx; omega), ⟨gs, h1.trans k fun x hx => .inl (by simp only [List.mem_singleton] at hx; simp [hx]), h2⟩, c.ng, c.nh, c.gh, gB, c.hB, Nat.le_trans c.lB k.size⟩
theorem Cl.hd (c : Cl F ts w w' b l g t pre kh B s n h en lv mv) (k : Only [kh] w' w2) (hB : Blk w2 kh 124 (hadv h')) : Cl F ts w w2 b l g t pre kh B s n h' en lv mv := by
  obtain ⟨gs, h1, h2⟩ := c.o
  have hB' := c.hB
  exact ⟨c.r.one k c.nh, k.blk c.nb (by simpa using c.gh), hB, c.no.go k fun x hx => (by simp only [List.mem_singleton] at hx; omega), ⟨gs, h1.trans k fun x hx => .inl (by simp only [List.mem_singleton] at hx; simp [hx]), h2⟩, c.ng, c.nh, c.gh, c.gB, hB', Nat.le_trans c.lB k.size⟩
def hadJ (h : Had) (j : Nat) : Bool := if j = 1 then h.i else if j = 2 then h.e else h.l
def setJ (h : Had) (j : Nat) : Had := if j = 1 then { h with i := true } else if j = 2 then { h with e := true } else { h with l := true }
theorem j3 {j : Nat} (h0 : j ≠ 0) (h3 : j ≤ 3) : j = 1 ∨ j = 2 ∨ j = 3 := by omega
theorem sclause_c (c : Cl F ts w w' b l g t pre kh B s n h en lv mv) (hm : n.mv.length < ts.length) : Calls Tryz.prog 65 #[rp b, .pointer (some ⟨g, pre.length, none⟩), .pointer (some ⟨kh, 0, none⟩)] w' fun e w2 => e = .returned (.bool (clauseS ts n h s).1) ∧
    ∃ en' lv' mv', Cl F ts w w2 b l g t pre kh B (clauseS ts n h s).2.2.2 (clauseS ts n h s).2.1 (clauseS ts n h s).2.2.1 en' lv' mv' := by
  refine ret (syntax_reader_clause_wp ⟨b, 0, none⟩ _ _ (fun v w2 => v = (.bool (clauseS ts n h s).1) ∧ ∃ en' lv' mv', Cl F ts w w2 b l g t pre kh B (clauseS ts n h s).2.2.2 (clauseS ts n h s).2.1 (clauseS ts n h s).2.2.1 en' lv' mv') w' ?_)
  unfold syntax_reader_clause_vc
  have hsm := c.r.sm
  obtain ⟨q, w0, e1, hO0, hm0⟩ := swh_c c.r [wOn, wAlways, wAfter] (n := 3) (parts := #[(0, .string (T wOn)), (1, .string (T wAlways)), (2, .string (T wAfter))]) rfl rfl (by decide) (by decide)
  refine ⟨q, w0, e1, hm0.mono ?_⟩
  rintro _ w1 ⟨rfl, hO1⟩
  have c1 := (c.q hO0).q hO1
  refine ⟨_, rfl, fun hc w2 hO2 => ?_, fun hc => ?_⟩
  · have hc := pos1 hc
    have c2 := c1.q hO2
    have hcl : clauseS ts n h s = (true, { n with mv := n.mv ++ [(moveS ts (whichS ts s [wOn, wAlways, wAfter] : Nat) s).1] }, h, (moveS ts (whichS ts s [wOn, wAlways, wAfter] : Nat) s).2) := by
      unfold clauseS; rw [if_pos hc]
    rw [hcl]
    refine ⟨fun k => k = g, _, rfl, rfl, mv, c2.nb.at0 (pre.length + 6) (pre_get rfl), (smove_c c2.r _ (which_ne hc).2).mono ?_⟩
    rintro _ w3 ⟨cs, rfl, hx, h3⟩
    have c3 := c2.nx h3
    generalize (moveS ts (whichS ts s [wOn, wAlways, wAfter] : Nat) s).1 = m at *
    generalize (moveS ts (whichS ts s [wOn, wAlways, wAfter] : Nat) s).2 = u at *
    have hx' := hx
    obtain ⟨gc, asl, tg, rfl, hg, _, _⟩ := hx'
    obtain ⟨sl, rfl⟩ := rE_cells hg
    have ng := c.ng
    have gB := c.gB
    obtain ⟨y, w4, e2, hO4, mv', w5, e3, hown, ⟨gs, hO5, hgs⟩, ha⟩ := app_one (P := Tryz.prog) (t := 42) (ty := 42) (e := 75) (i := Tryz.t75) (bytes := 168) (size := 13) (v := .agg (mvv m.k m.ev m.wt m.gd (exv m.g.k m.g.n m.g.s m.g.op sl m.g.a) asl tg m.a).toArray) (x := m) (G := Fr w2.heap.size) (by kernel_rfl) (by kernel_rfl) rfl rfl rfl rfl (by decide) (by decide) (by decide) (rMv_ok true) c3.no.mv c3.lB rfl hx (fun k hk _ => ⟨Nat.le_trans c2.lB hk, c2.no.mv.new hk⟩) (by omega)
    have hO5' : Only gs w3 w5 := (hO4.weaken (bs' := gs) fun _ h => (by cases h)).trans hO5 fun x hx => .inl hx
    have hgs' : ∀ x, x ∈ gs → B ≤ x := fun x hx => (hgs x hx).2.1
    have hn : g ∉ gs := fun hm => by have := hgs' g hm; omega
    have hB5 := hO5'.blk c3.nb hn
    refine ⟨_, _, _, _, _, _, _, _, sl, _, asl, tg, _, rfl, fun k hk hlt => (by subst hk; exact h3.o.block k hlt (by simp only [List.mem_singleton]; omega)), y, w4, e2, Keeps.only hO4, mv', w5, e3, fun k hk hlt => (by subst hk; exact hO5.block k hlt hn), _, rfl, g, _, _, _, rfl, hB5, by simp, fun w6 hO6 hB6 => ⟨rfl, en, lv, mv', ?_⟩⟩
    rw [pre_splice] at hB6
    have no5 := c3.no.app hown hO5' (fun x hx => (hgs x hx).1) ha c3.lB
    obtain ⟨gs0, o1, o2⟩ := c3.o
    have nh := c.nh
    have hBB := c.hB
    have lB := c3.lB
    have hgh := c.gh
    have z5 := hO5'.size
    have z6 := hO6.size
    exact ⟨(c3.r.own hO5' fun x hx => (by have := hgs' x hx; omega)).far1 hO6 ng, hB6, (hO6.block kh (by have := c3.hb.lt; omega) (by simp only [List.mem_singleton]; omega)).trans (hO5'.blk c3.hb fun hm => (by have := hgs' kh hm; omega)),
      no5.go hO6 fun x hx => (by simp only [List.mem_singleton] at hx; omega), ⟨gs ++ gs0, ((o1.weaken (bs' := b :: g :: kh :: (gs ++ gs0)) fun x hx => .inl (by simp only [List.mem_cons, List.mem_append] at hx ⊢; rcases hx with hx | hx | hx | hx <;> simp [hx])).trans hO5' fun x hx => .inl (by simp [hx])).trans hO6 fun x hx => .inl (by simp only [List.mem_singleton] at hx; simp [hx]), fun x hx => (List.mem_append.1 hx).elim (hgs' x) (o2 x)⟩, ng, nh, hgh, gB, hBB, by omega⟩
  · have hc := pos0 hc
    obtain ⟨q, w7, e1, hO7, hm0⟩ := swh_c c1.r [wInitial, wEnter, wLeave] (n := 3) (parts := #[(0, .string (T wInitial)), (1, .string (T wEnter)), (2, .string (T wLeave))]) rfl rfl (by decide) (by decide)
    refine ⟨q, w7, e1, hm0.mono ?_⟩
    rintro _ w8 ⟨rfl, hO8⟩
    have c8 := (c1.q hO7).q hO8
    have hle : whichS ts s [wInitial, wEnter, wLeave] ≤ 3 := which_le _
    refine ⟨_, rfl, fun hj => ?_, fun hj => ?_⟩
    · have hj := nat0 hj
      have hcl : clauseS ts n h s = (false, n, h, s) := by unfold clauseS; rw [if_neg (by simpa using hc), hj]; rfl
      rw [hcl]
      exact ⟨rfl, _, _, _, c8⟩
    have hj := nat1 hj
    have hnx := which_next c.r hj
    have hcl : clauseS ts n h s = (if hadJ h (whichS ts s [wInitial, wEnter, wLeave]) then (false, n, h, wrongS ts s) else if whichS ts s [wInitial, wEnter, wLeave] = 1 then (true, { n with ini := (nameS ts (nextS s)).1 }, setJ h 1, mustS ts (nameS ts (nextS s)).2 [59]) else if whichS ts s [wInitial, wEnter, wLeave] = 2 then (true, { n with en := (blockS ts (nextS s)).1 }, setJ h 2, (blockS ts (nextS s)).2) else (true, { n with lv := (blockS ts (nextS s)).1 }, setJ h 3, (blockS ts (nextS s)).2)) := by
      unfold clauseS
      rw [if_neg (by simpa using hc)]
      rcases j3 hj hle with e | e | e <;> rw [e] <;> rfl
    rw [hcl]
    generalize whichS ts s [wInitial, wEnter, wLeave] = j at *
    have hcell : (hadv h)[j]? = some (.bool (hadJ h j)) := by rcases j3 hj hle with e | e | e <;> rw [e] <;> rfl
    have hp : PtrAt ⟨kh, 0, none⟩ (j : Int) 4 1 ⟨kh, j, none⟩ := ⟨by omega, by omega, by rw [addr_lit, Int.toNat_natCast]; simp⟩
    refine ⟨_, rfl, ⟨kh, j, none⟩, hp, _, c8.hb.at0 j hcell, fun hh => ?_, fun hh => ?_⟩
    · rw [if_pos hh]
      refine (swrong_c c8.r).mono ?_
      rintro _ w9 ⟨rfl, h9⟩
      exact ⟨rfl, rfl, _, _, _, c8.nx h9⟩
    · rw [if_neg (by rw [hh]; decide)]
      refine ⟨_, rfl, ⟨kh, j, none⟩, hp, kh, j, _, _, rfl, c8.hb, by show j + 1 ≤ 4; omega, fun w10 hO10 hB10 => ?_⟩
      have c10 : Cl F ts w w10 b l g t pre kh B s n (setJ h j) en lv mv := c8.hd hO10 (by
        have e : splice (hadv h) j [.bool true] = hadv (setJ h j) := by rcases j3 hj hle with e | e | e <;> rw [e] <;> rfl
        rwa [e] at hB10)
      refine ⟨_, Blk.at1 c10.r.blk 1 rfl, b, 1, _, _, rfl, c10.r.blk, by simp, fun w11 hO11 hB11 => ?_⟩
      rw [c.r.wr] at hB11
      have c11 := c10.nx (s' := nextS s) ⟨hO11, c10.r.turn hO11 hB11 hnx⟩
      refine ⟨fun w' => ∃ en' lv' mv', Cl F ts w w' b l g t pre kh B _ _ _ en' lv' mv', fun w12 h12 => ⟨by split <;> (try split) <;> rfl, h12⟩, fun hj1 => ?_, fun hj1 => ⟨fun hj2 => ?_, fun hj2 => ?_⟩⟩
      · have e1 : j = 1 := by have : (j : Int) = 1 := by simpa using hj1
                              omega
        subst e1
        rw [if_pos rfl]
        refine (sname_c c11.r).mono ?_
        rintro _ w13 ⟨rfl, h13⟩
        have c13 := c11.nx h13
        refine ⟨_, rfl, _, rfl, g, _, _, _, rfl, c13.nb, by simp, fun w14 hO14 hB14 => ?_⟩
        rw [pre_splice] at hB14
        have c14 := c13.st (n' := { n with ini := (nameS ts (nextS s)).1 }) hO14 hB14 ⟨c13.no.en, c13.no.lv, c13.no.mv⟩
        obtain ⟨q, w15, e1, hO15, hm0⟩ := sms_c c14.r [59]
        refine ⟨q, w15, e1, hm0.mono ?_⟩
        rintro _ w16 ⟨rfl, h16⟩
        exact ⟨rfl, _, _, _, (c14.q hO15).nx h16⟩
      · have e1 : j = 2 := by have : (j : Int) = 2 := by simpa using hj2
                              omega
        subst e1
        rw [if_neg (by decide), if_pos rfl]
        refine (sblock_c c11.r).mono ?_
        rintro _ w17 ⟨la, rfl, hla, h17⟩
        have c17 := c11.nx h17
        refine ⟨la, rfl, _, rfl, g, _, _, _, rfl, c17.nb, by simp, fun w18 hO18 hB18 => ?_⟩
        rw [pre_splice] at hB18
        exact ⟨_, _, _, c17.st (n' := { n with en := (blockS ts (nextS s)).1 }) hO18 hB18 (c17.no.setEn hla c11.lB fun k hk => c11.no.mv.new hk)⟩
      · have e0 : j ≠ 1 := fun e => by rw [e] at hj1; simp at hj1
        have e1 : j = 3 := by have : ¬ (j : Int) = 2 := by simpa using hj2
                              omega
        subst e1
        rw [if_neg (by decide), if_neg (by decide)]
        refine (sblock_c c11.r).mono ?_
        rintro _ w19 ⟨la, rfl, hla, h19⟩
        have c19 := c11.nx h19
        refine ⟨la, rfl, _, rfl, g, _, _, _, rfl, c19.nb, by simp, fun w20 hO20 hB20 => ?_⟩
        rw [pre_splice] at hB20
        exact ⟨_, _, _, c19.st (n' := { n with lv := (blockS ts (nextS s)).1 }) hO20 hB20 (c19.no.setLv hla c11.lB fun k hk => c11.no.mv.new hk)⟩
end
end Go.Proofs.YtmanockofcopjaaGreatDoor.Con

namespace Go.Proofs.YtmanockofcopjaaGreatDoor.Con
open Go Go.RowKit Go.Kt Go.Kt.V Go.Proofs.YtmanockofcopjaaGreatDoor.Vc
set_option linter.unusedSimpArgs false
set_option linter.unusedVariables false
set_option maxHeartbeats 4000000

section
variable {F : Nat → Prop} {ts : List Tk} {w w' w2 : World} {b : Nat} {l : Sl} {s s' : Sx}
theorem snamed_c (h : Sr F ts w b l s) (k : Int) : Calls Tryz.prog 30 #[rp b, .int .i64 k] w fun e w' => e = .returned (.agg (ndv (namedS ts k s).1.k (namedS ts k s).1.nm [] [] Sl.nil Sl.nil Sl.nil Sl.nil (namedS ts k s).1.a).toArray) ∧ Dn F ts w w' b l (namedS ts k s).2 := by
  refine ret (syntax_reader_named_wp ⟨b, 0, none⟩ k (fun v w' => v = (.agg (ndv (namedS ts k s).1.k (namedS ts k s).1.nm [] [] Sl.nil Sl.nil Sl.nil Sl.nil (namedS ts k s).1.a).toArray) ∧ Dn F ts w w' b l (namedS ts k s).2) w ?_)
  unfold syntax_reader_named_vc
  intro k0 k1 w0 hk0 hk0' hk1 hk1' hO0
  have t0 := ((h.zt.q hO0).ad hk0 hk0').ad hk1 hk1'
  obtain ⟨ad, g1, g2⟩ := t0.r.now
  refine ⟨fun w' => Zt F ts w w' b l (roomS ts s) [k1, k0], fun w1 t1 => (skind_c t1.r (k := 1) (by decide)).mono ?_, l, Blk.at1 t0.r.blk 0 rfl, _, Blk.at1 t0.r.blk 1 rfl, ad, g1, _, g2.at1 0 _ rfl, fun hc w5 hO5 => ?_, fun hc w8 hO8 => ?_⟩
  · rintro _ w2 ⟨rfl, h2⟩
    have t2 := t1.nx h2
    refine ⟨_, _, _, _, rfl, t1.sc h2 (by simp), fun k2 w3 hk2 hk2' hO3 n1 n2 n3 => ⟨fun k => k = k2, rfl, fun e => n3 e, fun e => n3 e, fun w4 hO4 => ⟨rfl, ?_⟩⟩⟩
    have t3 := t2.q hO3
    have z3 := t3.z.go hO4 fun x hx => .inr (by simp only [List.mem_cons, List.not_mem_nil, or_false] at hx ⊢; omega)
    exact ⟨z3.o, t3.r.own hO4 fun x hx => t3.lt (by simp only [List.mem_cons, List.not_mem_nil, or_false] at hx ⊢; omega)⟩
  · have hc : (tk ts s.i).k = 1 := by simpa using hc
    have t5 := t0.q hO5
    unfold roomS
    rw [if_pos hc]
    refine (useN_c t5.r).mono ?_
    rintro _ w6 ⟨rfl, h6⟩
    have t6 := t5.nx h6
    refine ⟨rfl, t5.sc h6 (by simp), _, Blk.at1 t6.r.blk 6 rfl, fun hd => ?_, fun hd => ?_⟩
    · rw [if_pos (by simpa using hd)]
      refine (sstop_c t6.r 21).mono ?_
      rintro _ w7 ⟨rfl, h7⟩
      exact ⟨rfl, t6.sc h7 (by simp), t6.nx h7⟩
    · rw [if_neg (by simpa using hd)]
      exact t6
  · have hc : ¬ (tk ts s.i).k = 1 := by simpa using hc
    unfold roomS
    rw [if_neg hc]
    exact t0.q hO8

/-! ## a node's kids -/
/-- what reading a node does, at that depth -/
def NodeC (F : Nat → Prop) (ts : List Tk) (b : Nat) (l : Sl) (f : Nat) (d : Int) : Prop := ∀ (k : Int) (u : Sx) (w : World), Sr F ts w b l u → u.d = d → Calls Tryz.prog 66 #[rp b, .int .i64 k] w fun e w' => ∃ cs, e = .returned (.agg cs.toArray) ∧ rNd true f w' (Fr w.heap.size) (nodeS ts f k u).1 cs ∧ Dn F ts w w' b l (nodeS ts f k u).2
theorem nd0_r {f : Nat} (hf : 0 < f) (w : World) (G : Nat → Prop) : rNd true f w G nd0 (ndv 0 [] [] [] Sl.nil Sl.nil Sl.nil Sl.nil 0) := by
  obtain ⟨m, rfl⟩ : ∃ m, f = m + 1 := ⟨f - 1, by omega⟩
  exact ⟨_, _, _, _, rfl, ⟨SlG.nil _ _ _ _ _ _, SlG.nil _ _ _ _ _ _, SlG.nil _ _ _ _ _ _⟩, SlG.nil _ _ _ _ _ _⟩
abbrev NdO (f B : Nat) (w : World) (s : Sl) (xs : List Nd) : Prop := Own (rNd true f) 9 45 B w (Fr B) s xs
/-- the kid that was made is laid into its place, and the row into the node: in any order -/
theorem kid_store {f B g t : Nat} {pre : List Value} {n1 : Nb} {en lv mv l2 l8 : Sl} {acc : List Nd} {x : Nd} {k : Int} {nm ini dft : List UInt8} {a b1 b2 b3 : Sl} {at_ : Int} {k0 : Nat} {Q : World → Prop} {H : Nat → Prop}
    (hx : rNd true f w H x (ndv k nm ini dft a b1 b2 b3 at_)) (hH : ∀ i, H i → i < w.heap.size → Fr B i ∧ l8.a ≠ some ⟨i, 0, none⟩) (hH' : ∀ i, H i → B ≤ i) (hown : NdO f B w l8 (acc ++ [nd0])) (hn : l2.n = acc.length)
    (hnb : Blk w g t (pre ++ ndv n1.k n1.nm n1.ini n1.dft en lv mv l2 n1.a)) (hg : g < B) (hk0 : k0 < B) (hgk : k0 ≠ g)
    (hQ : ∀ w', Blk w' g t (pre ++ ndv n1.k n1.nm n1.ini n1.dft en lv mv l8 n1.a) → NdO f B w' l8 (acc ++ [x]) → (∃ gk, B ≤ gk ∧ Only [g, gk] w w') → Q w') :
    ∃ p1 : Addr, SlAt l8 (l2.n : Int) 9 p1 ∧ ∃ p2 : Addr, (some (⟨g, pre.length, none⟩ : Addr)) = (some p2) ∧
      (∃ k13 : Nat, ∃ k14 : Nat, ∃ z2 : List Value, ∃ k15 : Nat, p1 = ⟨k13, k14, none⟩ ∧ Blk w k13 k15 z2 ∧ (k14 + 9) ≤ z2.length ∧ k0 ≠ k13 ∧
        ∀ w15 : World, Only [k13] w w15 → Blk w15 k13 k15 (splice z2 k14 [.int .i64 k, .string (T nm), .string (T ini), .string (T dft), a.v, b1.v, b2.v, b3.v, .int .i64 at_]) → ∃ k16 : Nat, ∃ k17 : Nat, ∃ z3 : List Value, ∃ k18 : Nat, (p2.add 7) = ⟨k16, k17, none⟩ ∧
        Blk w15 k16 k18 z3 ∧ (k17 + 1) ≤ z3.length ∧ k0 ≠ k16 ∧ ∀ w16 : World, Only [k16] w15 w16 → Blk w16 k16 k18 (splice z3 k17 [l8.v]) → Q w16) ∧
      ∃ k19 : Nat, ∃ k20 : Nat, ∃ z4 : List Value, ∃ k21 : Nat, (p2.add 7) = ⟨k19, k20, none⟩ ∧ Blk w k19 k21 z4 ∧ (k20 + 1) ≤ z4.length ∧ k0 ≠ k19 ∧
        ∀ w17 : World, Only [k19] w w17 → Blk w17 k19 k21 (splice z4 k20 [l8.v]) → ∃ k22 : Nat, ∃ k23 : Nat, ∃ z5 : List Value, ∃ k24 : Nat, p1 = ⟨k22, k23, none⟩ ∧
        Blk w17 k22 k24 z5 ∧ (k23 + 9) ≤ z5.length ∧ k0 ≠ k22 ∧ ∀ w18 : World, Only [k22] w17 w18 → Blk w18 k22 k24 (splice z5 k23 [.int .i64 k, .string (T nm), .string (T ini), .string (T dft), a.v, b1.v, b2.v, b3.v, .int .i64 at_]) → Q w18 := by
  have hlt : l2.n < (acc ++ [nd0]).length := by rw [List.length_append, List.length_singleton]; omega
  have hset : (acc ++ [nd0]).set l2.n x = acc ++ [x] := by rw [hn, List.set_append_right _ _ (Nat.le_refl _), Nat.sub_self]; rfl
  obtain ⟨gk, cells, a1, a2, a3, a4, a5⟩ := Own.store (rNd_ok true f) hown hlt (vs := ndv k nm ini dft a b1 b2 b3 at_) rfl hx hH (by decide)
  have hgB := (hown.blk a1).1
  dsimp only at hgB
  refine ⟨_, a2, _, rfl, ⟨gk, l2.n * 9, cells, _, rfl, a3, a4, by omega, fun w15 hO15 hB15 => ⟨g, pre.length + 7, _, t, rfl, hO15.blk hnb (by simp only [List.mem_singleton]; omega), by simp, hgk, fun w16 hO16 hB16 => ?_⟩⟩, g, pre.length + 7, _, t, rfl, hnb, by simp, hgk, fun w17 hO17 hB17 => ?_⟩
  · rw [pre_splice] at hB16
    have o15 := a5 w15 hO15 hB15
    rw [hset] at o15
    exact hQ w16 hB16 (o15.stay (rNd_ok true f) hO16 fun x hx => .inl (by simp only [List.mem_singleton] at hx; omega)) ⟨gk, hgB, (hO15.weaken (bs' := [g, gk]) fun x hx => .inl (by simp only [List.mem_singleton] at hx; simp [hx])).trans hO16 fun x hx => .inl (by simp only [List.mem_singleton] at hx; simp [hx])⟩
  · rw [pre_splice] at hB17
    have z17 := hO17.size
    have hstay : NdO f B w17 l8 (acc ++ [nd0]) := hown.stay (rNd_ok true f) hO17 fun x hx => .inl (by simp only [List.mem_singleton] at hx; omega)
    have hx17 : rNd true f w17 (fun i => H i ∧ i < w.heap.size) x (ndv k nm ini dft a b1 b2 b3 at_) := (rNd_ok true f).keep ((rNd_ok true f).inHeap hx) fun i hi hlt => hO17.block i hlt (by have := hH' i hi.1; simp only [List.mem_singleton]; omega)
    obtain ⟨gk', cells', c1, c2, c3, c4, c5⟩ := Own.store (rNd_ok true f) hstay hlt (vs := ndv k nm ini dft a b1 b2 b3 at_) rfl hx17 (fun i hi _ => hH i hi.1 hi.2) (by decide)
    have e : gk' = gk := by
      rw [a1] at c1
      injection c1 with c1
      injection c1 with c1
      exact c1.symm
    subst e
    refine ⟨gk', l2.n * 9, cells', _, rfl, c3, c4, by omega, fun w18 hO18 hB18 => ?_⟩
    have o18 := c5 w18 hO18 hB18
    rw [hset] at o18
    exact hQ w18 (hO18.blk hB17 (by simp only [List.mem_singleton]; omega)) o18 ⟨gk', hgB, (hO17.weaken (bs' := [g, gk']) fun x hx => .inl (by simp only [List.mem_singleton] at hx; simp [hx])).trans hO18 fun x hx => .inl (by simp only [List.mem_singleton] at hx; simp [hx])⟩

/-- a node whose clauses are read, and its kids up to here -/
structure Kd (F : Nat → Prop) (ts : List Tk) (w w' : World) (b : Nat) (l : Sl) (g t : Nat) (pre : List Value) (f B B2 : Nat) (n : Nb) (en lv mv : Sl) (s : Sx) (acc : List Nd) (kids : Sl) : Prop where
  r : Sr F ts w' b l s
  nb : Blk w' g t (pre ++ ndv n.k n.nm n.ini n.dft en lv mv kids n.a)
  no : NbR true w' (fun k => B ≤ k ∧ k < B2) n en lv mv
  kd : NdO f B2 w' kids acc
  o : Only [b, g] w w'
  lB : B2 ≤ w'.heap.size
section
variable {g t : Nat} {pre : List Value} {f B B2 : Nat} {n : Nb} {en lv mv kids : Sl} {acc : List Nd}
theorem Kd.nx (h : Kd F ts w w' b l g t pre f B B2 n en lv mv s acc kids) (hbg : g ≠ b) (hb : b < B) (hB : B ≤ B2) (k : Dn F ts w' w2 b l s') : Kd F ts w w2 b l g t pre f B B2 n en lv mv s' acc kids :=
  ⟨k.r, k.o.blk h.nb (by simp only [List.mem_singleton]; omega), h.no.keep fun i hi hlt => k.o.block i hlt (by simp only [List.mem_singleton]; omega), h.kd.stay (rNd_ok true f) k.o fun x hx => .inl (by simp only [List.mem_singleton] at hx; omega),
    h.o.trans k.o fun x hx => .inl (by simp only [List.mem_singleton] at hx; simp [hx]), Nat.le_trans h.lB k.o.size⟩
end
end
end Go.Proofs.YtmanockofcopjaaGreatDoor.Con

namespace Go.Proofs.YtmanockofcopjaaGreatDoor.Con
open Go Go.RowKit Go.Kt Go.Kt.V Go.Proofs.YtmanockofcopjaaGreatDoor.Vc
set_option linter.unusedSimpArgs false
set_option linter.unusedVariables false
set_option maxHeartbeats 4000000

section
variable {F : Nat → Prop} {ts : List Tk} {w w' w2 : World} {b : Nat} {l : Sl} {s s' : Sx}
/-- as Cl, the clauses' marks apart -/
structure Cl0 (F : Nat → Prop) (ts : List Tk) (w w' : World) (b : Nat) (l : Sl) (g t : Nat) (pre : List Value) (kh B : Nat) (s : Sx) (n : Nb) (en lv mv : Sl) : Prop where
  r : Sr F ts w' b l s
  nb : Blk w' g t (pre ++ ndv n.k n.nm n.ini n.dft en lv mv Sl.nil n.a)
  no : NbO B w' n en lv mv
  o : ∃ gs, Only (b :: g :: kh :: gs) w w' ∧ ∀ x, x ∈ gs → B ≤ x
  ng : g ≠ b ∧ ¬ F g
  nh : b < kh
  gh : g ≠ kh
  gB : g < B
  hB : kh < B
  lB : B ≤ w'.heap.size
section
variable {g t : Nat} {pre : List Value} {kh B : Nat} {n : Nb} {h : Had} {en lv mv : Sl}
theorem Cl.c0 (c : Cl F ts w w' b l g t pre kh B s n h en lv mv) : Cl0 F ts w w' b l g t pre kh B s n en lv mv := ⟨c.r, c.nb, c.no, c.o, c.ng, c.nh, c.gh, c.gB, c.hB, c.lB⟩
theorem Cl0.cl (c : Cl0 F ts w w' b l g t pre kh B s n en lv mv) (hb : Blk w' kh 124 (hadv h)) : Cl F ts w w' b l g t pre kh B s n h en lv mv := ⟨c.r, c.nb, hb, c.no, c.o, c.ng, c.nh, c.gh, c.gB, c.hB, c.lB⟩
theorem Cl0.nx (c : Cl0 F ts w w' b l g t pre kh B s n en lv mv) (k : Dn F ts w' w2 b l s') : Cl0 F ts w w2 b l g t pre kh B s' n en lv mv := by
  have ng := c.ng
  have gB := c.gB
  have nh := c.nh
  have hBl := c.hB
  obtain ⟨gs, h1, h2⟩ := c.o
  exact ⟨k.r, k.o.blk c.nb (by simp only [List.mem_singleton]; omega), c.no.go k.o fun x hx => (by simp only [List.mem_singleton] at hx; omega),
    ⟨gs, h1.trans k.o fun x hx => .inl (by simp only [List.mem_singleton] at hx; simp [hx]), h2⟩, ng, c.nh, c.gh, gB, c.hB, Nat.le_trans c.lB k.o.size⟩
theorem Cl0.q (c : Cl0 F ts w w' b l g t pre kh B s n en lv mv) (k : Only [] w' w2) : Cl0 F ts w w2 b l g t pre kh B s n en lv mv := c.nx (c.r.dn.q k)
theorem Cl0.sc (c : Cl0 F ts w w' b l g t pre kh B s n en lv mv) (k : Dn F ts w' w2 b l s') : Same [kh] w' w2 := k.o.same fun x hx => by
  have := c.nh
  have := c.hB
  have := c.lB
  simp only [List.mem_singleton] at hx ⊢
  omega
theorem Cl0.sq (c : Cl0 F ts w w' b l g t pre kh B s n en lv mv) (k : Only [] w' w2) : Same [kh] w' w2 := c.sc (c.r.dn.q k)
end
theorem clause_len (n : Nb) (h : Had) (s : Sx) : (clauseS ts n h s).2.1.mv.length ≤ n.mv.length + 1 := by
  unfold clauseS
  split
  · dsimp only; rw [List.length_append, List.length_singleton]; omega
  · split
    · exact Nat.le_succ _
    · split <;> exact Nat.le_succ _
    · split <;> exact Nat.le_succ _
    · split <;> exact Nat.le_succ _
theorem sbody_c {f : Nat} (h : Sr F ts w b l s) {g t : Nat} {pre : List Value} {n : Nb} (hen : n.en = []) (hlv : n.lv = []) (hmv : n.mv = []) (hB : Blk w g t (pre ++ ndv n.k n.nm n.ini n.dft Sl.nil Sl.nil Sl.nil Sl.nil n.a)) (hg : g ≠ b ∧ ¬ F g) (hd : InI s.d) (hN : s.fc = 0 → 0 < f ∧ NodeC F ts b l f (dec s.d)) :
    Calls Tryz.prog 33 #[rp b, .pointer (some ⟨g, pre.length, none⟩)] w fun e w' => e = .returned (.tuple #[]) ∧ ∃ cs, Blk w' g t (pre ++ cs) ∧ rNd true (f + 1) w' (Fr w.heap.size) (bodyS ts (nodeS ts f) n s).1 cs ∧ Only [b, g] w w' ∧ Sr F ts w' b l (bodyS ts (nodeS ts f) n s).2 := by
  refine ret (syntax_reader_body_wp ⟨b, 0, none⟩ _ (fun v w' => v = (.tuple #[]) ∧ ∃ cs, Blk w' g t (pre ++ cs) ∧ rNd true (f + 1) w' (Fr w.heap.size) (bodyS ts (nodeS ts f) n s).1 cs ∧ Only [b, g] w w' ∧ Sr F ts w' b l (bodyS ts (nodeS ts f) n s).2) w ?_)
  unfold syntax_reader_body_vc
  intro k0 w0 hk0 hk0' hO0
  have t0 := h.zt.al hO0 hk0 hk0'
  have hgw := hB.lt
  have hbw := h.lb
  refine ⟨_, Blk.at1 t0.r.blk 6 rfl, b, 6, _, _, rfl, t0.r.blk, by simp, t0.ne (by simp), fun w1 hO1 hB1 => ?_⟩
  have t1 : Zt F ts w w1 b l { s with d := dec s.d } [k0] := t0.up hO1 hB1 h.lt
  have nb1 : Blk w1 g t (pre ++ ndv n.k n.nm n.ini n.dft Sl.nil Sl.nil Sl.nil Sl.nil n.a) := hO1.blk (hO0.blk hB (by simp)) (by simp only [List.mem_singleton]; omega)
  have zw1 := t1.z.o.size
  have zk := (t1.z.k k0 (by simp)).2
  generalize hBB : w1.heap.size = B at *
  have hgB : g < B := by omega
  have c1 : Cl0 F ts w w1 b l g t pre k0 B { s with d := dec s.d } n Sl.nil Sl.nil Sl.nil := ⟨t1.r, nb1, ⟨by rw [hen]; exact SlG.nil _ _ _ _ _ _, by rw [hlv]; exact SlG.nil _ _ _ _ _ _, by rw [hmv]; exact Own.nil _ _ _ _ _ _⟩,
    ⟨[], t1.z.o.weaken fun x hx => .inl (by simp only [List.mem_singleton] at hx; simp [hx]), fun x hx => (by cases hx)⟩, hg, by omega, by omega, hgB, zk, Nat.le_of_eq hBB.symm⟩
  have hbB : b < B := by omega
  unfold bodyS
  dsimp only
  generalize hC : clausesS ts (ts.length + 1) n ⟨false, false, false⟩ { s with d := dec s.d } = C
  have hCon : On ts { s with d := dec s.d } C.2 := by rw [← hC]; exact clauses_on h.en _ _ _ _
  refine ⟨fun nv b0 b1 b2 b3 w' => ∃ (n' : Nb) (hd : Had) (s' : Sx) (en lv mv : Sl), b0 = false ∧ b1 = hd.i ∧ b2 = hd.e ∧ b3 = hd.l ∧ Cl0 F ts w w' b l g t pre k0 B s' n' en lv mv ∧ clausesS ts nv n' hd s' = C ∧ mu ts s' < nv ∧ n'.mv.length + mu ts s' ≤ ts.length, ts.length + 1,
    ⟨n, ⟨false, false, false⟩, _, _, _, _, rfl, rfl, rfl, rfl, c1, hC, Nat.lt_succ_of_le (mu_le _ _), by rw [hmv, List.length_nil, Nat.zero_add]; exact mu_le _ _⟩, ?_⟩
  rintro nv _ _ _ _ w2 ⟨n', hd', s', en, lv, mv, rfl, rfl, rfl, rfl, c2, hR, hf1, hm1⟩
  obtain ⟨m, rfl⟩ : ∃ m, nv = m + 1 := ⟨nv - 1, by omega⟩
  rw [clausesS] at hR
  refine ⟨fun b4 b5 b6 b7 b8 w' => (b4 = true ∧ ∃ (n' : Nb) (hd : Had) (s' : Sx) (en lv mv : Sl), b5 = false ∧ b6 = hd.i ∧ b7 = hd.e ∧ b8 = hd.l ∧ Cl0 F ts w w' b l g t pre k0 B s' n' en lv mv ∧ clausesS ts m n' hd s' = C ∧ mu ts s' < m ∧ n'.mv.length + mu ts s' ≤ ts.length) ∨
    (b4 = false ∧ ∃ (en lv mv : Sl), Cl0 F ts w w' b l g t pre k0 B C.2 C.1 en lv mv), ?_, (sfine_c c2.r).mono ?_⟩
  rotate_left
  · rintro _ w29 ⟨rfl, hO29⟩
    have c29 := c2.q hO29
    refine ⟨_, rfl, c2.sq hO29, fun hc hBk => ?_, fun hc => ?_⟩
    · have hc : s'.fc = 0 := by simpa using hc
      rw [if_neg (by simp [hc])] at hR
      have hml := mu_le ts s'
      have hlt := c2.r.lt
      have hmu0 : 0 < mu ts s' := by unfold mu; rw [if_pos hc]; omega
      have hlen := clause_len (ts := ts) n' hd' s'
      refine (sclause_c (c29.cl (h := hd') hBk) (by omega)).mono ?_
      rintro _ w30 ⟨rfl, en', lv', mv', c30⟩
      refine ⟨_, rfl, _, _, _, _, c30.hb, ?_⟩
      cases hcl : (clauseS ts n' hd' s').1 with
      | true =>
        rw [if_pos hcl] at hR
        have hmu := clause_mu h.en n' hd' hc hlt hcl
        exact .inl ⟨rfl, _, _, _, _, _, _, rfl, rfl, rfl, rfl, c30.c0, hR, by omega, by omega⟩
      | false =>
        rw [if_neg (by rw [hcl]; decide)] at hR
        refine .inr ⟨rfl, en', lv', mv', ?_⟩
        rw [← hR]
        exact c30.c0
    · have hc : s'.fc ≠ 0 := by simpa using hc
      rw [if_pos hc] at hR
      refine .inr ⟨rfl, en, lv, mv, ?_⟩
      rw [← hR]
      exact c29
  clear hR hf1 hm1 c2
  rintro b4 b5 b6 b7 b8 w3 (⟨rfl, hh⟩ | ⟨rfl, en, lv, mv, c3⟩)
  · exact ⟨fun _ => ⟨m, Nat.lt_succ_self _, hh⟩, fun hh => (by cases hh)⟩
  refine ⟨fun hh => (by cases hh), fun _ => ?_⟩
  generalize C.1 = n1 at *
  generalize C.2 = s1 at *
  have hsB : B ≤ w3.heap.size := c3.lB
  have no3 : NbR true w3 (fun k => B ≤ k ∧ k < w3.heap.size) n1 en lv mv :=
    ⟨(c3.no.en.inHeap (rAc_ok true) (by decide)).mono (rAc_ok true) fun k hk => ⟨hk.1.1, hk.2⟩, (c3.no.lv.inHeap (rAc_ok true) (by decide)).mono (rAc_ok true) fun k hk => ⟨hk.1.1, hk.2⟩, (c3.no.mv.sl (rMv_ok true) fun k hk => hk).inHeap (rMv_ok true) (by decide)⟩
  obtain ⟨gs3, o3, o3'⟩ := c3.o
  have o3 : Only [b, g] w w3 := o3.weaken fun x hx => by
    simp only [List.mem_cons] at hx
    rcases hx with rfl | rfl | rfl | hx
    · exact .inl (by simp)
    · exact .inl (by simp)
    · exact .inr hk0
    · exact .inr (Nat.le_trans zw1 (o3' x hx))
  have k3 : Kd F ts w w3 b l g t pre f B w3.heap.size n1 en lv mv s1 [] Sl.nil := ⟨c3.r, c3.nb, no3, Own.nil _ _ _ _ _ _, o3, Nat.le_refl _⟩
  generalize hB2 : w3.heap.size = B2 at *
  clear c3 no3 o3 o3' hC
  generalize hK : kidsS ts (nodeS ts f) (ts.length + 1) [] s1 = K
  have sk : ∀ {u u' : World} {x y : Sx}, B2 ≤ u.heap.size → Dn F ts u u' b l y → Same [k0] u u' := fun hz k => k.o.same fun x hx => by
    simp only [List.mem_singleton] at hx ⊢
    omega
  have nxk : ∀ {u u' : World} {x y : Sx} {acc : List Nd} {kids : Sl}, Kd F ts w u b l g t pre f B B2 n1 en lv mv x acc kids → Dn F ts u u' b l y → Kd F ts w u' b l g t pre f B B2 n1 en lv mv y acc kids := fun a k => a.nx hg.1 hbB hsB k
  have go : ∀ {u : World} {x : Sx} {acc : List Nd} {kids : Sl}, Kd F ts w u b l g t pre f B B2 n1 en lv mv x acc kids → ∃ (q : Sl) (u2 : World), (Instr.buildSlice 25 4 #[.mk 0 (.string (ByteArray.mk #[115, 116, 97, 116, 101])), .mk 1 (.string (ByteArray.mk #[112, 97, 114, 97, 108, 108, 101, 108])), .mk 2 (.string (ByteArray.mk #[104, 105, 115, 116, 111, 114, 121])), .mk 3 (.string (ByteArray.mk #[100, 101, 101, 112]))]).run Tryz.prog u = .ok q.v u2 ∧ Same [k0] u u2 ∧ Calls Tryz.prog 64 #[rp b, q.v] u2 fun e u3 => e = .returned (.int .i64 (whichS ts x wKinds : Nat)) ∧ Same [k0] u2 u3 ∧ Kd F ts w u3 b l g t pre f B B2 n1 en lv mv x acc kids := fun {u x acc kids} a => by
    obtain ⟨q, u2, e1, hO, hm⟩ := swh_c a.r wKinds (n := 4) (parts := #[(0, .string (T wState)), (1, .string (T wParallel)), (2, .string (T wHistory)), (3, .string (T wDeep))]) rfl rfl (by decide) (by decide)
    have a2 := nxk a (a.r.dn.q hO)
    refine ⟨q, u2, e1, sk (x := x) a.lB (a.r.dn.q hO), hm.mono ?_⟩
    rintro _ u3 ⟨rfl, hO3⟩
    exact ⟨rfl, sk (x := x) a2.lB (a2.r.dn.q hO3), nxk a2 (a2.r.dn.q hO3)⟩
  obtain ⟨q, w4, e1, hs4, hm4⟩ := go k3
  refine ⟨q, w4, e1, hs4, hm4.mono ?_⟩
  rintro _ w5 ⟨rfl, hs5, k5⟩
  refine ⟨_, rfl, hs5, fun nv i2 _ _ _ _ w' => ∃ (s' : Sx) (acc : List Nd) (kids : Sl), i2 = ((whichS ts s' wKinds : Nat) : Int) ∧ Kd F ts w w' b l g t pre f B B2 n1 en lv mv s' acc kids ∧ kidsS ts (nodeS ts f) nv acc s' = K ∧ mu ts s' < nv ∧ acc.length + mu ts s' ≤ ts.length ∧ s'.d = dec s.d ∧ (s'.fc = 0 → s.fc = 0), ts.length + 1,
    ⟨s1, [], Sl.nil, rfl, k5, hK, Nat.lt_succ_of_le (mu_le _ _), by rw [List.length_nil, Nat.zero_add]; exact mu_le _ _, hCon.d, fun e => (hCon.le e).1⟩, ?_⟩
  clear hs5 k5 hm4 hs4 e1 k3 hK
  rintro nv _ b9 b10 b11 b12 w6 ⟨s', acc, kids, rfl, k6, hR, hf1, hm1, hd6, hz6⟩
  obtain ⟨m', rfl⟩ : ∃ m', nv = m' + 1 := ⟨nv - 1, by omega⟩
  rw [kidsS] at hR
  have hkb : k0 ≠ b := t0.ne (by simp)
  have hkg : k0 ≠ g := by omega
  refine ⟨fun hc => ?_, fun hc => ?_⟩
  · have hc := pos1 hc
    rw [if_neg hc] at hR
    obtain ⟨hfc, hk5⟩ := which_ne hc
    obtain ⟨hf0, hNC⟩ := hN (hz6 hfc)
    have hlt := k6.r.lt
    refine ⟨_, Blk.at1 k6.r.blk 1 rfl, b, 1, _, _, rfl, k6.r.blk, by simp, hkb, fun w7 hO7 hB7 => ?_⟩
    rw [k6.r.wr] at hB7
    have k7 := nxk k6 (y := nextS s') ⟨hO7, k6.r.turn hO7 hB7 (which_next k6.r hc)⟩
    have hsm := h.sm
    have hmul := mu_le ts s'
    have hon := node_on h.en f (whichS ts s' wKinds : Nat) (nextS s') (by show InI s'.d; rw [hd6]; exact wrapIn _)
    have hmu := next_mu h.en hfc hlt hk5 hon.toOn0
    generalize whichS ts s' wKinds = kk at *
    generalize hNx : nodeS ts f (kk : Int) (nextS s') = N at *
    have hond : N.2.d = dec s.d := hon.d.trans hd6
    have honz : N.2.fc = 0 → s.fc = 0 := fun e => hz6 (hon.le e).1
    refine ⟨fun _ _ _ _ w' => ∃ kids', Kd F ts w w' b l g t pre f B B2 n1 en lv mv N.2 (acc ++ [N.1]) kids', fun b13 b14 b15 b16 w8 h8 => ?_, fun w11 hO11 => ?_⟩
    · obtain ⟨kids', k8⟩ := h8
      obtain ⟨q, w9, e1, hs9, hm9⟩ := go k8
      refine ⟨q, w9, e1, hs9, hm9.mono ?_⟩
      rintro _ w10 ⟨rfl, hs10, k10⟩
      exact ⟨_, rfl, hs10, m', Nat.lt_succ_self _, _, _, _, rfl, k10, hR, by omega, by rw [List.length_append, List.length_singleton]; omega, hond, honz⟩
    · have k11 := nxk k7 (k7.r.dn.q hO11)
      have z11 := k11.lB
      have hrun : ∀ {u : World}, Sr F ts u b l (nextS s') → Calls Tryz.prog 66 #[rp b, .int .i64 (kk : Int)] u fun e w' => ∃ cs, e = .returned (.agg cs.toArray) ∧ rNd true f w' (Fr u.heap.size) N.1 cs ∧ Dn F ts u w' b l N.2 := fun hu => by
        have := hNC (kk : Int) (nextS s') _ hu hd6
        rw [hNx] at this
        exact this
      have keepg : ∀ {u u' : World} {bs : List Nat}, Only bs u u' → (∀ x, x ∈ bs → x ≠ g) → Keeps (fun k => k = g) u u' := fun hO hb k hk hlt => by subst hk; exact hO.block k hlt fun hm => hb k hm rfl
      have zc : Value.cells (.agg (ndv 0 [] [] [] Sl.nil Sl.nil Sl.nil Sl.nil 0).toArray) = (ndv 0 [] [] [] Sl.nil Sl.nil Sl.nil Sl.nil 0).toArray := rfl
      -- a row of one zero node
      have hz : ∀ (u : World), ∃ (y : Sl) (u2 : World), (Instr.buildSlice 43 1 #[.mk 0 (.agg (ndv 0 [] [] [] Sl.nil Sl.nil Sl.nil Sl.nil 0).toArray)]).run Tryz.prog u = .ok y.v u2 ∧ Own (rNd true f) 9 45 u.heap.size u2 (fun _ => False) y [nd0] ∧ Only [] u u2 := fun u => by
        obtain ⟨y, u2, a1, a2, a3, _⟩ := build_own (P := Tryz.prog) (t := 43) (e := 45) (i := Tryz.t45) (w := u) (F := fun _ => False) (r := rNd true f) (size := 9) (vs := [.agg (ndv 0 [] [] [] Sl.nil Sl.nil Sl.nil Sl.nil 0).toArray]) (xs := [nd0]) (len := 1) (parts := #[(0, .agg (ndv 0 [] [] [] Sl.nil Sl.nil Sl.nil Sl.nil 0).toArray)]) (by kernel_rfl) (by kernel_rfl) rfl rfl (by decide) rfl rfl (by decide) (by decide) (rNd_ok true f) ⟨⟨rfl, nd0_r hf0 _ _⟩, trivial⟩
        exact ⟨y, u2, a1, a2, a3⟩
      -- the append, where a row of one zero node is at hand
      have happ : ∀ {u : World} {y : Sl} {A : Nat}, B2 ≤ A → NdO f B2 u kids acc → (∀ k, A ≤ k → kids.a ≠ some ⟨k, 0, none⟩) → SliceF (rNd true f) 9 u (Fr A) y [nd0] → A ≤ u.heap.size → ∃ (s8 : Sl) (u2 : World), (Builtin.append_ #[43, 43] 43 #[kids.v, y.v]).run Tryz.prog u = .ok s8.v u2 ∧ NdO f B2 u2 s8 (acc ++ [nd0]) ∧ (∃ gs, Only gs u u2 ∧ ∀ x, x ∈ gs → B2 ≤ x ∧ x < A) ∧ (∀ k, A ≤ k → k < u.heap.size → s8.a ≠ some ⟨k, 0, none⟩) := fun {u y A} hA ho hk hy hAu => by
        obtain ⟨s8, u2, a1, a2, gs, a3, a4, a5⟩ := app_own (P := Tryz.prog) (t := 43) (ty := 43) (e := 45) (i := Tryz.t45) (bytes := 160) (size := 9) (y := y) (ys := [nd0]) (by kernel_rfl) (by kernel_rfl) rfl rfl rfl rfl (rNd_ok true f) ho (hy.mono (rNd_ok true f) fun k hk' => ⟨Nat.le_trans hA hk', hk k hk'⟩) (Nat.le_trans hA hAu) (by rw [List.length_singleton]; omega) (by decide)
        refine ⟨s8, u2, a1, a2, ⟨gs, a3, fun x hx => ⟨(a4 x hx).2.1, ?_⟩⟩, fun k h1 h2 => ?_⟩
        · exact Nat.lt_of_not_le fun hle => hk x hle (a4 x hx).1
        · rcases a5 with a5 | a5
          · rw [a5]; exact hk k h1
          · rw [a5]
            intro e
            injection e with e
            injection e with e
            omega
      -- both are at hand
      have hfin : ∀ {u : World} {s8 : Sl}, Sr F ts u b l N.2 → Blk u g t (pre ++ ndv n1.k n1.nm n1.ini n1.dft en lv mv kids n1.a) → NbR true u (fun k => B ≤ k ∧ k < B2) n1 en lv mv → Only [b, g] w u → B2 ≤ u.heap.size → NdO f B2 u s8 (acc ++ [nd0]) → ∀ w', Blk w' g t (pre ++ ndv n1.k n1.nm n1.ini n1.dft en lv mv s8 n1.a) → NdO f B2 w' s8 (acc ++ [N.1]) → (∃ gk, B2 ≤ gk ∧ Only [g, gk] u w') → ∃ kids', Kd F ts w w' b l g t pre f B B2 n1 en lv mv N.2 (acc ++ [N.1]) kids' := fun hr hnb hno ho hz _ w' h1 h2 ⟨gk, h3, h4⟩ =>
        ⟨_, hr.far h4 fun x hx => (by
          simp only [List.mem_cons, List.not_mem_nil, or_false] at hx
          rcases hx with rfl | rfl
          · exact hg
          · exact hr.gt (by omega)), h1, hno.keep fun i hi hlt => h4.block i hlt (by simp only [List.mem_cons, List.not_mem_nil, or_false]; omega), h2, ho.trans h4 fun x hx => by
          simp only [List.mem_cons, List.not_mem_nil, or_false] at hx ⊢
          omega, Nat.le_trans hz h4.size⟩
      refine ⟨fun k => k = g, _, rfl, rfl, kids, k11.nb.at0 (pre.length + 7) (pre_get rfl), (hrun k11.r).mono ?_, ?_⟩
      · rintro _ w12 ⟨cs, rfl, hx, h12⟩
        have k12 := nxk k11 h12
        have hx' := hx
        obtain ⟨f', rfl⟩ : ∃ f', f = f' + 1 := ⟨f - 1, by omega⟩
        obtain ⟨xe, xl, xm, xk, rfl, _⟩ := hx'
        obtain ⟨y, w13, e2, hy, hO13⟩ := hz w12
        have k13 := nxk k12 (k12.r.dn.q hO13)
        obtain ⟨s8, w14, e3, own8, ⟨gs, hO14, hgs⟩, hs8⟩ := happ (u := w13) (y := y) (A := w11.heap.size) z11 k13.kd (fun k hk => k11.kd.new hk) ((hy.slice (rNd_ok true _)).mono (rNd_ok true _) fun k hk => (by
          rcases hk with hk | hk
          · exact hk.elim
          · exact Nat.le_trans h12.o.size hk.1)) (Nat.le_trans h12.o.size hO13.size)
        have hgn : ∀ x, x ∈ gs → x ≠ g := fun x hx => by have := (hgs x hx).1; omega
        have z14 := hO14.size
        have z13 := k13.lB
        have z12 := h12.o.size
        refine ⟨_, _, _, _, xe, xl, xm, xk, _, rfl, sk (x := s') k11.lB h12, keepg h12.o (by simp only [List.mem_singleton]; omega), y, w13, e2, sk (x := s') k12.lB (k12.r.dn.q hO13), keepg hO13 (by simp), s8, w14, e3, hO14.same (fun x hx => ?_), keepg hO14 hgn, ?_⟩
        · simp only [List.mem_singleton] at hx
          subst hx
          exact ⟨by omega, fun hm => by have := (hgs x hm).1; omega⟩
        · refine kid_store (H := fun k => w11.heap.size ≤ k ∧ k < w12.heap.size) (acc := acc) ?_ (fun k hk _ => ⟨Nat.le_trans z11 hk.1, hs8 k hk.1 (Nat.lt_of_lt_of_le hk.2 hO13.size)⟩) (fun k hk => Nat.le_trans z11 hk.1) own8 k11.kd.len (hO14.blk k13.nb fun hm => hgn g hm rfl) (by omega) (by omega) hkg (hfin (k13.r.own hO14 fun x hx => (by have := (hgs x hx).1; omega)) (hO14.blk k13.nb fun hm => hgn g hm rfl) (k13.no.keep fun i hi hlt => hO14.block i hlt fun hm => (by have := (hgs i hm).1; omega)) (k13.o.trans hO14 fun x hx => .inr (by have := (hgs x hx).1; have := k11.o.size; omega)) (Nat.le_trans z13 z14) own8)
          refine (rNd_ok true _).keep ((rNd_ok true _).inHeap hx) fun k hk hlt => ?_
          exact (hO14.block k (Nat.lt_of_lt_of_le hlt hO13.size) fun hm => by have := (hgs k hm).2; have := hk.1; omega).trans (hO13.block k hlt (by simp))
      · obtain ⟨y, w19, e2, hy, hO19⟩ := hz w11
        have k19 := nxk k11 (k11.r.dn.q hO19)
        refine ⟨y, w19, e2, sk (x := s') k11.lB (k11.r.dn.q hO19), keepg hO19 (by simp), (hrun k19.r).mono ?_⟩
        rintro _ w20 ⟨cs, rfl, hx, h20⟩
        have k20 := nxk k19 h20
        have hx' := hx
        obtain ⟨f', rfl⟩ : ∃ f', f = f' + 1 := ⟨f - 1, by omega⟩
        obtain ⟨xe, xl, xm, xk, rfl, _⟩ := hx'
        have hy20 := (((hy.slice (rNd_ok true _)).inHeap (rNd_ok true _) (by decide)).keep (rNd_ok true _) (by decide) (w' := w20) fun k hk hlt => h20.o.block k hlt (by
          rcases hk.1 with hk | hk
          · exact hk.elim
          · have := hk.1; simp only [List.mem_singleton]; omega)).mono (rNd_ok true _) (G := Fr w11.heap.size) fun k hk => (by
          rcases hk.1 with hk | hk
          · exact hk.elim
          · exact hk.1)
        obtain ⟨s8, w21, e3, own8, ⟨gs, hO21, hgs⟩, hs8⟩ := happ (u := w20) (y := y) (A := w11.heap.size) z11 k20.kd (fun k hk => k11.kd.new hk) hy20 (Nat.le_trans hO19.size h20.o.size)
        have hgn : ∀ x, x ∈ gs → x ≠ g := fun x hx => by have := (hgs x hx).1; omega
        have z21 := hO21.size
        have z20 := k20.lB
        have z19 := hO19.size
        refine ⟨_, _, _, _, xe, xl, xm, xk, _, rfl, sk (x := s') k19.lB h20, keepg h20.o (by simp only [List.mem_singleton]; omega), s8, w21, e3, hO21.same (fun x hx => ?_), keepg hO21 hgn, ?_⟩
        · simp only [List.mem_singleton] at hx
          subst hx
          exact ⟨by omega, fun hm => by have := (hgs x hm).1; omega⟩
        · refine kid_store (H := fun k => w19.heap.size ≤ k ∧ k < w20.heap.size) (acc := acc) ?_ (fun k hk _ => ⟨by show B2 ≤ k; omega, hs8 k (by omega) hk.2⟩) (fun k hk => by omega) own8 k11.kd.len (hO21.blk k20.nb fun hm => hgn g hm rfl) (by omega) (by omega) hkg (hfin (k20.r.own hO21 fun x hx => (by have := (hgs x hx).1; omega)) (hO21.blk k20.nb fun hm => hgn g hm rfl) (k20.no.keep fun i hi hlt => hO21.block i hlt fun hm => (by have := (hgs i hm).1; omega)) (k20.o.trans hO21 fun x hx => .inr (by have := (hgs x hx).1; have := k11.o.size; omega)) (Nat.le_trans z20 z21) own8)
          refine (rNd_ok true _).keep ((rNd_ok true _).inHeap hx) fun k hk hlt => ?_
          exact hO21.block k hlt fun hm => by have := (hgs k hm).2; have := hk.1; omega
  · have hc := pos0 hc
    rw [if_pos hc] at hR
    refine ⟨_, Blk.at1 k6.r.blk 6 rfl, b, 6, _, _, rfl, k6.r.blk, by simp, hkb, fun w26 hO26 hB26 => ?_⟩
    have k26 := nxk k6 (y := { s' with d := inc s'.d }) ⟨hO26, k6.r.turn hO26 hB26 k6.r.lt⟩
    obtain ⟨q, w27, e1, hO27, hm⟩ := sms_c k26.r [125]
    have k27 := nxk k26 (k26.r.dn.q hO27)
    refine ⟨q, w27, e1, sk (x := s') k26.lB (k26.r.dn.q hO27), hm.mono ?_⟩
    rintro _ w28 ⟨rfl, h28⟩
    have k28 := nxk k27 h28
    refine ⟨rfl, sk (x := s') k27.lB h28, rfl, _, k28.nb, ?_, k28.o, ?_⟩
    · rw [← hR]
      refine ⟨en, lv, mv, kids, rfl, k28.no.mono fun k hk => Nat.le_trans zw1 hk.1, (k28.kd.sl (rNd_ok true f) fun k hk => hk).low (rNd_ok true f) (by omega)⟩
    · rw [← hR]
      exact k28.r
end
end Go.Proofs.YtmanockofcopjaaGreatDoor.Con

namespace Go.Proofs.YtmanockofcopjaaGreatDoor.Con
open Go Go.RowKit Go.Kt Go.Kt.V Go.Proofs.YtmanockofcopjaaGreatDoor.Vc
set_option linter.unusedSimpArgs false
set_option linter.unusedVariables false
set_option maxHeartbeats 4000000

section
variable {F : Nat → Prop} {ts : List Tk} {w w' w2 : World} {b : Nat} {l : Sl} {s s' : Sx}
theorem snode_c : ∀ (f : Nat) (d : Int), 0 ≤ d → d < f → d ≤ 9223372036854775807 → NodeC F ts b l f d
  | 0, d, h0, h1, _ => by omega
  | f + 1, d, h0, h1, h2 => by
    intro k u w h hd
    refine (syntax_reader_node_wp ⟨b, 0, none⟩ k (fun v w' => ∃ cs, v = (.agg cs.toArray) ∧ rNd true (f + 1) w' (Fr w.heap.size) (nodeS ts (f + 1) k u).1 cs ∧ Dn F ts w w' b l (nodeS ts (f + 1) k u).2) w ?_).mono (by
      rintro e w' ⟨v, rfl, cs, rfl, h⟩; exact ⟨cs, rfl, h⟩)
    unfold syntax_reader_node_vc
    intro k0 w0 hk0 hk0' hO0
    have t0 := h.zt.al hO0 hk0 hk0'
    refine (snamed_c t0.r k).mono ?_
    rintro _ w1 ⟨rfl, h1'⟩
    have t1 := t0.nx h1'
    have hon := named_on h.en k u
    have hnd := named_d (ts := ts) (k := k) (s := u)
    rw [nodeS]
    have hnb : (namedS ts k u).1.ini = [] ∧ (namedS ts k u).1.dft = [] ∧ (namedS ts k u).1.en = [] ∧ (namedS ts k u).1.lv = [] ∧ (namedS ts k u).1.mv = [] := ⟨rfl, rfl, rfl, rfl, rfl⟩
    generalize namedS ts k u = N at *
    obtain ⟨nb, u1⟩ := N
    dsimp only at *
    obtain ⟨i1, i2, i3, i4, i5⟩ := hnb
    obtain ⟨nk, nnm, nini, ndft, nen, nlv, nmv, na⟩ := nb
    dsimp only at i1 i2 i3 i4 i5
    subst i1 i2 i3 i4 i5
    dsimp only at *
    refine ⟨_, _, _, _, Sl.nil, Sl.nil, Sl.nil, Sl.nil, _, rfl, t0.sc h1' (by simp), fun hc k1 w2 hk1 hk1' hO2 => ?_, fun hc k2 w10 hk2 hk2' hO10 => ?_⟩
    · rw [if_pos (by have := of_decide_eq_true hc; omega)]
      have t2 := t1.al hO2 hk1 hk1'
      obtain ⟨q, w3, e1, hO3, hm⟩ := sms_c t2.r [45, 62]
      have t3 := t2.q hO3
      refine ⟨q, w3, e1, t2.sq hO3 (by simp), hm.mono ?_⟩
      rintro _ w4 ⟨rfl, h4⟩
      have t4 := t3.nx h4
      refine ⟨rfl, t3.sc h4 (by simp), (sname_c t4.r).mono ?_⟩
      rintro _ w5 ⟨rfl, h5⟩
      have t5 := t4.nx h5
      refine ⟨_, rfl, t4.sc h5 (by simp), fun w6 hO6 => ?_⟩
      have t6 := t5.f hO6 (by simp)
      obtain ⟨q, w7, e1, hO7, hm⟩ := sms_c t6.r [59]
      have t7 := t6.q hO7
      refine ⟨q, w7, e1, t6.sq hO7 (by simp), hm.mono ?_⟩
      rintro _ w8 ⟨rfl, h8⟩
      have t8 := t7.nx h8
      refine ⟨rfl, t7.sc h8 (by simp), fun w9 hO9 => ⟨_, rfl, ⟨Sl.nil, Sl.nil, Sl.nil, Sl.nil, rfl, ⟨SlG.nil _ _ _ _ _ _, SlG.nil _ _ _ _ _ _, SlG.nil _ _ _ _ _ _⟩, SlG.nil _ _ _ _ _ _⟩, (t8.f hO9 (by simp)).dn⟩⟩
    · rw [if_neg (by have := of_decide_eq_false hc; omega)]
      have t10 := t1.al hO10 hk2 hk2'
      obtain ⟨q, w11, e1, hO11, hm⟩ := sms_c t10.r [123]
      have t11 := t10.q hO11
      refine ⟨q, w11, e1, t10.sq hO11 (by simp), hm.mono ?_⟩
      rintro _ w12 ⟨rfl, h12⟩
      have t12 := t11.nx h12
      have hms := must_on (s := u1) h.en [123]
      refine ⟨rfl, t11.sc h12 (by simp), fun hB _ => ?_⟩
      have hsd : (mustS ts u1 [123]).d = d := hms.d.trans (hon.d.trans hd)
      refine (sbody_c (f := f) t12.r (pre := []) (n := ⟨nk, nnm, [], [], [], [], [], na⟩) rfl rfl rfl hB (t12.r.gt (t12.lt (by simp))) (by rw [hsd]; exact ⟨by omega, h2⟩) (fun hf => ?_)).mono ?_
      · have hd0 := hnd (hms.le hf).1
        rw [hd] at hd0
        have hdd : dec d = d - 1 := by unfold dec; rw [wr' (by omega) (by omega)]
        rw [hsd, hdd]
        exact ⟨by omega, snode_c f (d - 1) (by omega) (by omega) (by omega)⟩
      · rintro _ w13 ⟨rfl, cs, hB13, hx, hO13, hr13⟩
        have hx' := hx
        obtain ⟨xe, xl, xm, xk, rfl, _⟩ := hx'
        have z13 : Fz [b] w w13 [k2, k0] := t12.z.go hO13 fun x hx => (by simp only [List.mem_cons, List.not_mem_nil, or_false] at hx ⊢; omega)
        have l2 := t12.lt (k0 := k2) (by simp)
        have l0 := t12.lt (k0 := k0) (by simp)
        have k0l := (t1.z.k k0 (by simp)).2
        refine ⟨rfl, t12.z.sm hO13 (by simp) (fun x hx => ?_), _, _, _, _, xe, xl, xm, xk, _, hB13, fun w14 hO14 hB14 => ⟨_, rfl, ?_, ?_⟩⟩
        · simp only [List.mem_cons, List.not_mem_nil, or_false] at hx
          rcases hx with rfl | rfl
          · exact .inl (by simp)
          · exact .inr fun y hy => by simp only [List.mem_singleton] at hy; omega
        · refine (rNd_ok true _).low ((rNd_ok true _).stay hx ((Stay.refl _ _).f hO14 (.inl ?_))) t12.z.o.size
          have := (t12.z.k k0 (by simp)).2
          exact this
        · exact ⟨(z13.f hO14 (by simp)).o, hr13.one hO14 l0⟩
theorem svar_c (h : Sr F ts w b l s) (hg : ∀ t, t ∈ ts → t.Good) : Calls Tryz.prog 32 #[rp b] w fun e w' => e = .returned (.agg #[.string (T (varS ts s).1.n), .int .i64 (varS ts s).1.v, .int .i64 (varS ts s).1.a]) ∧ Dn F ts w w' b l (varS ts s).2 := by
  refine ret (syntax_reader_variable_wp ⟨b, 0, none⟩ (fun v w' => v = (.agg #[.string (T (varS ts s).1.n), .int .i64 (varS ts s).1.v, .int .i64 (varS ts s).1.a]) ∧ Dn F ts w w' b l (varS ts s).2) w ?_)
  unfold syntax_reader_variable_vc
  intro k0 w0 hk0 hk0' hO0
  have t0 := h.zt.al hO0 hk0 hk0'
  obtain ⟨ad, g1, g2⟩ := t0.r.now
  unfold varS
  dsimp only
  generalize hs1 : (if (tk ts s.i).k = 1 then useV ts s else s) = s1
  refine ⟨fun w' => Zt F ts w w' b l s1 [k0], fun w1 t1 => (skind_c t1.r (k := 1) (by decide)).mono ?_, l, Blk.at1 t0.r.blk 0 rfl, _, Blk.at1 t0.r.blk 1 rfl, ad, g1, _, g2.at1 0 _ rfl, fun hc w12 hO12 => ?_, fun hc w14 hO14 => ?_⟩
  · rintro _ w2 ⟨rfl, h2⟩
    have t2 := t1.nx h2
    refine ⟨_, _, _, _, rfl, t1.sc h2 (by simp), fun k1 w3 hk1 hk1' hO3 => ?_⟩
    have t3 := t2.al hO3 hk1 hk1'
    obtain ⟨q, w4, e1, hO4, hm⟩ := sms_c t3.r [61]
    have t4 := t3.q hO4
    refine ⟨q, w4, e1, t3.sq hO4 (by simp), hm.mono ?_⟩
    rintro _ w5 ⟨rfl, h5⟩
    have t5 := t4.nx h5
    refine ⟨rfl, t4.sc h5 (by simp), ?_⟩
    obtain ⟨q, w6, e1, hO6, hm⟩ := stk_c t5.r [[45]] (n := 1) (parts := #[(0, .string (T [45]))]) rfl rfl (by decide) (by decide)
    have t6 := t5.q hO6
    refine ⟨q, w6, e1, t5.sq hO6 (by simp), hm.mono ?_⟩
    rintro _ w7 ⟨rfl, h7⟩
    have t7 := t6.nx h7
    generalize hgg : whichS ts (mustS ts (kindS ts s1 1).2 [61]) [[45]] = gg at *
    have hgl : gg ≤ 1 := by rw [← hgg]; exact which_le _
    refine ⟨_, rfl, t6.sc h7 (by simp), (skind_c t7.r (k := 3) (by decide)).mono ?_⟩
    rintro _ w8 ⟨rfl, h8⟩
    have t8 := t7.nx h8
    refine ⟨_, _, _, _, rfl, t7.sc h8 (by simp), ?_⟩
    obtain ⟨q, w9, e1, hO9, hm⟩ := sms_c t8.r [59]
    have t9 := t8.q hO9
    refine ⟨q, w9, e1, t8.sq hO9 (by simp), hm.mono ?_⟩
    rintro _ w10 ⟨rfl, h10⟩
    refine ⟨rfl, t9.sc h10 (by simp), fun w11 hO11 => ⟨?_, ((t9.nx h10).f hO11 (by simp)).dn⟩⟩
    have hn : ∀ u : Sx, 0 ≤ (kindS ts u 3).1.n ∧ (kindS ts u 3).1.n ≤ 9223372036854775807 := fun u => by
      unfold kindS
      split
      · exact ⟨Int.le_refl 0, (by decide : (0 : Int) ≤ 9223372036854775807)⟩
      · unfold tk
        cases hx : ts[u.i]? with
        | none => exact ⟨Int.le_refl 0, (by decide : (0 : Int) ≤ 9223372036854775807)⟩
        | some t => exact (hg t (List.mem_of_getElem? hx)).2.2
    obtain ⟨n0, n1⟩ := hn (if gg = 0 then mustS ts (kindS ts s1 1).2 [61] else nextS (mustS ts (kindS ts s1 1).2 [61]))
    generalize (kindS ts (if gg = 0 then mustS ts (kindS ts s1 1).2 [61] else nextS (mustS ts (kindS ts s1 1).2 [61])) 3).1.n = x at *
    have e : IntKind.wrap .i64 ((IntKind.wrap .i64 (1 - (IntKind.wrap .i64 (2 * (gg : Int))))) * x) = if gg = 0 then x else IntKind.wrap .i64 (-x) := by
      rcases (by omega : gg = 0 ∨ gg = 1) with rfl | rfl
      · rw [if_pos rfl]
        show IntKind.wrap .i64 (1 * x) = x
        rw [Int.one_mul, wr' (by omega) (by omega)]
      · rw [if_neg (by decide)]
        show IntKind.wrap .i64 (-1 * x) = _
        rw [Int.neg_one_mul]
    rw [e]
  · refine (useV_c (t0.q hO12).r).mono ?_
    rintro _ w13 ⟨rfl, h13⟩
    refine ⟨rfl, (t0.q hO12).sc h13 (by simp), ?_⟩
    rw [← hs1, if_pos (by simpa using hc)]
    exact (t0.q hO12).nx h13
  · rw [← hs1, if_neg (by simpa using hc)]
    exact t0.q hO14
end
end Go.Proofs.YtmanockofcopjaaGreatDoor.Con

namespace Go.Proofs.YtmanockofcopjaaGreatDoor.Con
open Go Go.RowKit Go.Kt Go.Kt.V Go.Proofs.YtmanockofcopjaaGreatDoor.Vc
set_option linter.unusedSimpArgs false
set_option linter.unusedVariables false
set_option maxHeartbeats 4000000

theorem ch0_r (w : World) (F : Nat → Prop) : ChR true 15 w F ch0 Sl.nil (ndv 0 [] [] [] Sl.nil Sl.nil Sl.nil Sl.nil 0) := ⟨SlG.nil _ _ _ _ _ _, nd0_r (by decide) _ _⟩
theorem ChR.stay {d : Nat} {w w' : World} {B : Nat} {c : Ch} {vs : Sl} {cs : List Value} (h : ChR true d w (Fr B) c vs cs) (hs : Stay B w w') : ChR true d w' (Fr B) c vs cs := ⟨h.vars.stay rVr_ok (by decide) hs, (rNd_ok true d).stay h.root hs⟩
theorem ChR.low {d : Nat} {w : World} {A B : Nat} {c : Ch} {vs : Sl} {cs : List Value} (h : ChR true d w (Fr B) c vs cs) (hA : A ≤ B) : ChR true d w (Fr A) c vs cs := ⟨h.vars.low rVr_ok hA, (rNd_ok true d).low h.root hA⟩
theorem var_mu {ts : List Tk} (hE : EndL ts) {s : Sx} {ss : List (List UInt8)} (hi : s.i < ts.length) (hw : whichS ts s ss ≠ 0) : mu ts (varS ts (nextS s)).2 < mu ts s :=
  next_mu hE (which_ne hw).1 hi (which_ne hw).2 (var_on hE (nextS s)).toOn0
theorem sparse_c {w : World} (l : List UInt8) (hE : Er w) : Calls Tryz.prog 17 #[.string (T l)] w fun e w' =>
    ∃ (vs : Sl) (cs : List Value), e = .returned (.tuple #[.agg (vs.v :: cs).toArray, .agg #[.int .i64 (parseC l).2.1, .int .i64 (parseC l).2.2]]) ∧ ChR true 15 w' (Fr w.heap.size) (parseC l).1 vs cs ∧ Only [] w w' := by
  refine (syntax_Parse_wp (T l) (fun v w' => ∃ (vs : Sl) (cs : List Value), v = (.tuple #[.agg (vs.v :: cs).toArray, .agg #[.int .i64 (parseC l).2.1, .int .i64 (parseC l).2.2]]) ∧ ChR true 15 w' (Fr w.heap.size) (parseC l).1 vs cs ∧ Only [] w w') w ?_).mono (by
    rintro e w' ⟨v, rfl, vs, cs, rfl, h⟩; exact ⟨vs, cs, rfl, h⟩)
  unfold syntax_Parse_vc
  generalize hP : parseC l = P
  unfold parseC at hP
  intro k0 k1 w0 hk0 hk0' hk1 hk1' hO0
  have z0 := hO0.size
  refine (tokens_c l (hE.only hO0)).mono ?_
  rintro _ w1 ⟨rs, rfl, hT, hO1⟩
  have z1 := hO1.size
  have hO01 := hO0.tr0 hO1
  have tOk := tokensM_ok (l := l)
  have fin0 : ∀ {w2 w3 : World}, Only [] w1 w2 → Only [k1, k0] w2 w3 → Only [] w w3 := fun hO2 hO3 => ((hO01.tr0 hO2).trans hO3 fun x hx => .inr (by simp only [List.mem_cons, List.not_mem_nil, or_false] at hx; omega))
  refine ⟨rs, _, _, rfl, hO1.same (by simp; omega), fun hc k2 w2 hk2 hk2' hO2 n1 n2 n3 => ⟨fun k => k = k2, rfl, fun e => n2 e, fun e => n3 e, fun w3 hO3 => ?_⟩, fun hc k3 k4 k5 w4 hk3 hk3' hk4 hk4' hk5 hk5' hO4 => ?_⟩
  · have hc : (tokensM l).2.1 ≠ 0 := by simpa using hc
    rw [if_pos hc] at hP
    subst hP
    exact ⟨Sl.nil, _, rfl, ch0_r _ _, fin0 hO2 hO3⟩
  have hc : (tokensM l).2.1 = 0 := by simpa using hc
  obtain ⟨hEn, hgd, hlen0, hlen⟩ := tOk hc
  rw [if_neg (by simpa using hc)] at hP
  have htok := ((hT.sl.inHeap rTk_ok (by decide)).mono rTk_ok (G := fun k => w0.heap.size ≤ k ∧ k < w1.heap.size) fun k hk => ⟨hk.1.1, hk.2⟩)
  generalize (tokensM l).1 = ts at *
  clear tOk hT
  have z4 := hO4.size
  obtain ⟨q, w5, e1, hq, hO5⟩ := buildS w4 [wChart] (n := 1) (parts := #[(0, .string (T wChart))]) rfl rfl (by decide) (by decide)
  have z5 := hO5.size
  refine ⟨q, w5, e1, hO5.same (by simp; omega), fun hB5 n04 n14 n34 n54 => ?_⟩
  have r5 : Sr (fun k => w0.heap.size ≤ k ∧ k < w1.heap.size) ts w5 k4 rs sx0 := ⟨hB5, SliceF.only rTk_ok (by decide) htok (hO4.tr0 hO5) (by simp), fun k hk => by have := hk.2; omega, hEn, hlen0, by omega⟩
  have hF1 : ∀ k, (fun k => w0.heap.size ≤ k ∧ k < w1.heap.size) k → k < w1.heap.size := fun k hk => hk.2
  generalize (fun k => w0.heap.size ≤ k ∧ k < w1.heap.size) = F at *
  have w5w : Only [] w w5 := (hO01.tr0 hO4).tr0 hO5
  have sm : ∀ {u u' : World} {x : Sx}, w5.heap.size ≤ u.heap.size → Dn F ts u u' k4 rs x → Same [k0, k1, k3, k5] u u' := fun hz d => d.o.same (by
    intro x hx; simp only [List.mem_cons, List.not_mem_nil, or_false] at hx ⊢; omega)
  have sq : ∀ {u u' : World}, w5.heap.size ≤ u.heap.size → Only [] u u' → Same [k0, k1, k3, k4, k5] u u' := fun hz o => o.same fun x hx => ⟨by
    simp only [List.mem_cons, List.not_mem_nil, or_false] at hx; omega, by simp⟩
  have oD : ∀ {u u' : World} {x : Sx}, Only [] w u → Dn F ts u u' k4 rs x → Only [] w u' := fun o d => o.trans d.o fun x hx => .inr (by simp only [List.mem_singleton] at hx; omega)
  have o5 : ∀ {u u' : World}, Only [] w u → Only [k5] u u' → Only [] w u' := fun o d => o.trans d fun x hx => .inr (by simp only [List.mem_singleton] at hx; omega)
  have r55 : ∀ {u u' : World} {x : Sx}, Sr F ts u k4 rs x → Only [k5] u u' → Sr F ts u' k4 rs x := fun r o => r.far1 o ⟨n54, fun hF => by have := hF1 _ hF; omega⟩
  have hb5 := hB5.lt
  refine (smust_c r5 (flatS hq) fun k hk e => (by have := hk.1; omega)).mono ?_
  rintro _ w6 ⟨rfl, h6⟩
  have z6 := h6.o.size
  refine ⟨rfl, sm (Nat.le_refl _) h6, rs, _, _, _, _, _, _, _, _, h6.r.blk, (snamed_c h6.r 1).mono ?_⟩
  rintro _ w7 ⟨rfl, h7⟩
  have z7 := h7.o.size
  have hC : chartS ts = (⟨(varsS ts (ts.length + 1) [] (mustS ts (namedS ts 1 (mustS ts sx0 wChart)).2 [123])).1, (bodyS ts (nodeS ts 14) (namedS ts 1 (mustS ts sx0 wChart)).1 (varsS ts (ts.length + 1) [] (mustS ts (namedS ts 1 (mustS ts sx0 wChart)).2 [123])).2).1⟩, endS ts (bodyS ts (nodeS ts 14) (namedS ts 1 (mustS ts sx0 wChart)).1 (varsS ts (ts.length + 1) [] (mustS ts (namedS ts 1 (mustS ts sx0 wChart)).2 [123])).2).2) := rfl
  have hnb : (namedS ts 1 (mustS ts sx0 wChart)).1.ini = [] ∧ (namedS ts 1 (mustS ts sx0 wChart)).1.dft = [] ∧ (namedS ts 1 (mustS ts sx0 wChart)).1.en = [] ∧ (namedS ts 1 (mustS ts sx0 wChart)).1.lv = [] ∧ (namedS ts 1 (mustS ts sx0 wChart)).1.mv = [] := ⟨rfl, rfl, rfl, rfl, rfl⟩
  have on7 : On ts sx0 (namedS ts 1 (mustS ts sx0 wChart)).2 := (must_on hEn _).trans (named_on hEn _ _)
  generalize namedS ts 1 (mustS ts sx0 wChart) = N at *
  obtain ⟨⟨nk, nnm, nini, ndft, nen, nlv, nmv, na⟩, u1⟩ := N
  dsimp only at *
  obtain ⟨i1, i2, i3, i4, i5⟩ := hnb
  subst i1 i2 i3 i4 i5
  refine ⟨_, _, _, _, Sl.nil, Sl.nil, Sl.nil, Sl.nil, _, rfl, sm z6 h7, rs, _, _, _, _, _, _, _, _, h7.r.blk, fun w8 hO8 hB8 => ?_⟩
  have z8 := hO8.size
  have r8 := r55 h7.r hO8
  have w8w := o5 (oD (oD w5w h6) h7) hO8
  obtain ⟨q, w9, e1, hO9, hm⟩ := sms_c r8 [123]
  have z9 := hO9.size
  refine ⟨q, w9, e1, sq (by omega) hO9, hm.mono ?_⟩
  rintro _ w10 ⟨rfl, h10⟩
  have z10 := h10.o.size
  have w10w := oD (w8w.tr0 hO9) h10
  have on10 : On ts sx0 (mustS ts u1 [123]) := on7.trans (must_on hEn _)
  clear hm
  generalize mustS ts u1 [123] = u2 at *
  generalize hV : varsS ts (ts.length + 1) [] u2 = V at *
  generalize hB : w10.heap.size = B at *
  refine ⟨rfl, sm (by omega) h10, rs, _, _, _, _, _, _, _, _, h10.r.blk, fun nv l10 i28 s3 s4 s5 l11 l12 l13 l14 i29 l15 i30 i31 i32 i33 i34 i35 i36 i37 w' => ∃ (u : Sx) (acc : List Vr), i28 = nk ∧ s3 = T nnm ∧ s4 = T [] ∧ s5 = T [] ∧ l11 = Sl.nil ∧ l12 = Sl.nil ∧ l13 = Sl.nil ∧ l14 = Sl.nil ∧ i29 = na ∧ Sr F ts w' k4 rs u ∧ Own rVr 3 73 B w' (Fr B) l10 acc ∧ varsS ts nv acc u = V ∧ mu ts u < nv ∧ acc.length + mu ts u ≤ ts.length ∧ Only [] w w' ∧ B ≤ w'.heap.size ∧ u.d = 12,
    ts.length + 1, ⟨u2, [], rfl, rfl, rfl, rfl, rfl, rfl, rfl, rfl, rfl, h10.r, Own.nil _ _ _ _ _ _, hV, Nat.lt_succ_of_le (mu_le _ _), by rw [List.length_nil, Nat.zero_add]; exact mu_le _ _, w10w, Nat.le_of_eq hB.symm, on10.d⟩, ?_⟩
  clear hV
  rintro nv l10 nk2 _ _ _ _ _ _ _ na2 l15 i30 i31 i32 i33 i34 i35 i36 i37 w11 ⟨u, acc, rfl, rfl, rfl, rfl, rfl, rfl, rfl, rfl, rfl, r11, own11, hR, hf1, hm1, w11w, zB, hud⟩
  obtain ⟨m, rfl⟩ : ∃ m, nv = m + 1 := ⟨nv - 1, by omega⟩
  rw [varsS] at hR
  obtain ⟨q, w12, e1, hO12, hm⟩ := stk_c r11 [wVar] (n := 1) (parts := #[(0, .string (T wVar))]) rfl rfl (by decide) (by decide)
  have z12 := hO12.size
  refine ⟨q, w12, e1, sq (by omega) hO12, hm.mono ?_⟩
  rintro _ w13 ⟨rfl, h13⟩
  have z13 := h13.o.size
  have w13w := oD (w11w.tr0 hO12) h13
  have own13 : Own rVr 3 73 B w13 (Fr B) l10 acc := (own11.stay rVr_ok hO12 fun x hx => (by cases hx)).stay rVr_ok h13.o fun x hx => .inl (by simp only [List.mem_singleton] at hx; omega)
  refine ⟨_, rfl, sm (by omega) h13, rs, _, _, _, _, _, _, _, _, h13.r.blk, fun hc1 w14 hO14 hB14 => ?_, fun hc1 hB13 m05 m15 m35 => ?_⟩
  · have hc1 := pos1 hc1
    rw [if_neg hc1] at hR h13
    have z14 := hO14.size
    have r14 := h13.r.only hO14
    refine ⟨fun k => k = k5, rfl, (svar_c r14 hgd).mono ?_⟩
    rintro _ w15 ⟨rfl, h15⟩
    have z15 := h15.o.size
    have hmu := var_mu hEn r11.lt hc1
    have hon := var_on hEn (nextS u)
    generalize varS ts (nextS u) = X at *
    obtain ⟨x, u'⟩ := X
    dsimp only at *
    have hml := mu_le ts u
    have own15 : Own rVr 3 73 B w15 (Fr B) l10 acc := (own13.stay rVr_ok hO14 fun x hx => (by cases hx)).stay rVr_ok h15.o fun x hx => .inl (by simp only [List.mem_singleton] at hx; omega)
    obtain ⟨y, w16, e2, hO16, la', w17, e3, hown, ⟨gs, hO17, hgs⟩, _⟩ := app_one (P := Tryz.prog) (t := 40) (ty := 40) (e := 73) (i := Tryz.t73) (bytes := 32) (size := 3) (v := .agg #[.string (T x.n), .int .i64 x.v, .int .i64 x.a]) (x := x) (G := fun _ => False) (by kernel_rfl) (by kernel_rfl) rfl rfl rfl rfl (by decide) (by decide) (by decide) rVr_ok own15 (by omega) rfl rfl (fun k hk _ => hk.elim) (by omega)
    have hgs' : ∀ g, g ∈ gs → B ≤ g := fun g hg => (hgs g hg).2.1
    have z16 := hO16.size
    have z17 := hO17.size
    refine ⟨_, _, _, rfl, sm (by omega) h15, rs, _, _, _, _, _, _, _, _, h15.r.blk, fun k hk hlt => (by subst hk; exact h15.o.block k hlt (by simp only [List.mem_singleton]; omega)), y, w16, e2, sq (by omega) hO16, Keeps.only hO16, la', w17, e3, hO17.same (fun x hx => ?_), fun k hk hlt => (by subst hk; exact hO17.block k hlt fun hm => (by have := hgs' k hm; omega)), fun w18 hO18 hB18 => ?_⟩
    · simp only [List.mem_cons, List.not_mem_nil, or_false] at hx
      exact ⟨by omega, fun hm => by have := hgs' x hm; omega⟩
    · have z18 := hO18.size
      have r17 : Sr F ts w17 k4 rs u' := (h15.r.only hO16).own hO17 fun x hx => (by have := hgs' x hx; omega)
      refine ⟨m, Nat.lt_succ_self _, u', acc ++ [x], rfl, rfl, rfl, rfl, rfl, rfl, rfl, rfl, rfl, r55 r17 hO18, ?_, hR, by omega, by rw [List.length_append, List.length_singleton]; omega, o5 (((oD (w13w.tr0 hO14) h15).tr0 hO16).trans hO17 fun x hx => .inr (by have := hgs' x hx; have := w13w.size; omega)) hO18, by omega, hon.d.trans hud⟩
      refine (hown.mono rVr_ok fun k hk => ?_).stay rVr_ok hO18 fun x hx => .inl (by simp only [List.mem_singleton] at hx; omega)
      rcases hk with hk | hk
      · exact hk
      · show B ≤ k; omega
  · have hc1 := pos0 hc1
    rw [if_pos hc1] at hR h13
    subst hR
    dsimp only at hC
    have r13 := h13.r
    refine (sbody_c (f := 14) r13 (pre := [l10.v]) (n := ⟨nk2, nnm, [], [], [], [], [], na2⟩) rfl rfl rfl hB13 ⟨n54, fun hF => (by have := hF1 _ hF; omega)⟩ (by rw [hud]; exact ⟨by decide, by decide⟩) (fun _ => by
      rw [hud]
      exact ⟨by decide, snode_c 14 11 (by decide) (by decide) (by decide)⟩)).mono ?_
    generalize bodyS ts (nodeS ts 14) ⟨nk2, nnm, [], [], [], [], [], na2⟩ u = D at *
    obtain ⟨root, s1⟩ := D
    dsimp only at hC
    rw [hC] at hP
    dsimp only at hP
    rintro _ w19 ⟨rfl, cs, hB19, hx, hO19, r19⟩
    dsimp only at *
    have z19 := hO19.size
    have w19w : Only [] w w19 := w13w.trans hO19 fun x hx => .inr (by simp only [List.mem_cons, List.not_mem_nil, or_false] at hx; omega)
    have st19 : Stay B w13 w19 := Stay.of hO19 fun x hx => .inl (by simp only [List.mem_cons, List.not_mem_nil, or_false] at hx; omega)
    have c19 : ChR true 15 w19 (Fr w5.heap.size) ⟨acc, root⟩ l10 cs := ⟨((own13.sl rVr_ok fun k hk => hk).stay rVr_ok (by decide) st19).low rVr_ok (by omega), (rNd_ok true 15).low hx (by omega)⟩
    have hx' := hx
    obtain ⟨xe, xl, xm, xk, rfl, _⟩ := hx'
    have sm3 : ∀ {u u' : World} {bs : List Nat}, w5.heap.size ≤ u.heap.size → Only bs u u' → (∀ x, x ∈ bs → x = k4 ∨ x = k5) → Same [k0, k1, k3] u u' := fun hz o hb => o.same fun x hx => ⟨by simp only [List.mem_cons, List.not_mem_nil, or_false] at hx; omega, fun hm => by have := hb x hm; simp only [List.mem_cons, List.not_mem_nil, or_false] at hx; omega⟩
    refine ⟨rfl, sm3 (by omega) hO19 (by simp), rs, _, _, _, _, _, _, _, _, r19.blk, l10, _, _, _, _, xe, xl, xm, xk, _, hB19, ?_⟩
    -- all that is left turns but the reader
    have st : ∀ {u u' : World} {x : Sx}, Sr F ts u k4 rs x → Blk u k5 47 (l10.v :: ndv root.b.k root.b.nm root.b.ini root.b.dft xe xl xm xk root.b.a) → Only [] w u → ChR true 15 u (Fr w5.heap.size) ⟨acc, root⟩ l10 (ndv root.b.k root.b.nm root.b.ini root.b.dft xe xl xm xk root.b.a) → ∀ {y : Sx}, Dn F ts u u' k4 rs y → Sr F ts u' k4 rs y ∧ Blk u' k5 47 (l10.v :: ndv root.b.k root.b.nm root.b.ini root.b.dft xe xl xm xk root.b.a) ∧ Only [] w u' ∧ ChR true 15 u' (Fr w5.heap.size) ⟨acc, root⟩ l10 (ndv root.b.k root.b.nm root.b.ini root.b.dft xe xl xm xk root.b.a) := fun {u u' x} a1 a2 a3 a4 {y} d =>
      ⟨d.r, d.o.blk a2 (by simp only [List.mem_singleton]; omega), oD a3 d, a4.stay (Stay.of d.o fun x hx => .inl (by simp only [List.mem_singleton] at hx; omega))⟩
    refine ⟨fun l27 i67 s10 s11 s12 l28 l29 l30 l31 i68 l32 i69 i70 i71 i72 i73 i74 i75 i76 w20 => w5.heap.size ≤ w20.heap.size ∧ Sr F ts w20 k4 rs (endS ts s1) ∧ Blk w20 k5 47 (l10.v :: ndv root.b.k root.b.nm root.b.ini root.b.dft xe xl xm xk root.b.a) ∧ Only [] w w20 ∧ ChR true 15 w20 (Fr w5.heap.size) ⟨acc, root⟩ l10 (ndv root.b.k root.b.nm root.b.ini root.b.dft xe xl xm xk root.b.a), ?_, ?_⟩
    · rintro l27 i67 s10 s11 s12 l28 l29 l30 l31 i68 l32 i69 i70 i71 i72 i73 i74 i75 i76 w20 ⟨z20, a1, a2, a3, a4⟩
      refine (sfine_c a1).mono ?_
      rintro _ w21 ⟨rfl, hO21⟩
      obtain ⟨b1, b2, b3, b4⟩ := st a1 a2 a3 a4 (a1.dn.q hO21)
      have z21 := hO21.size
      refine ⟨_, rfl, sm3 z20 hO21 (by simp), rs, _, _, _, _, _, _, _, _, b1.blk, l10, _, _, _, _, xe, xl, xm, xk, _, b2, fun hf w22 hO22 _ _ p01 p03 p04 p05 p13 p14 p15 p34 p35 p45 => ⟨fun k => k = k4, rfl, fun e => p04 e, fun e => p14 e, fun w23 hO23 _ _ => ?_⟩, fun hf w24 hO24 _ _ => ?_⟩
      · have hf : (endS ts s1).fc ≠ 0 := by simpa using hf
        rw [if_pos hf] at hP
        subst hP
        exact ⟨Sl.nil, _, rfl, ch0_r _ _, (b3.tr0 hO22).trans hO23 fun x hx => .inr (by simp only [List.mem_cons, List.not_mem_nil, or_false] at hx; omega)⟩
      · have hf : ¬ (endS ts s1).fc ≠ 0 := by simpa using hf
        rw [if_neg hf] at hP
        subst hP
        refine ⟨l10, _, rfl, (b4.stay (Stay.of hO24 fun x hx => .inl (by simp only [List.mem_cons, List.not_mem_nil, or_false] at hx; omega))).low w5w.size, b3.trans hO24 fun x hx => .inr (by simp only [List.mem_cons, List.not_mem_nil, or_false] at hx; omega)⟩
    · refine ⟨fun b1 l39 i87 s16 s17 s18 l40 l41 l42 l43 i88 l44 i89 i90 i91 i92 i93 i94 i95 i96 w25 => b1 = decide (s1.fc = 0 ∧ (tk ts s1.i).k ≠ 5) ∧ w5.heap.size ≤ w25.heap.size ∧ Sr F ts w25 k4 rs s1 ∧ Blk w25 k5 47 (l10.v :: ndv root.b.k root.b.nm root.b.ini root.b.dft xe xl xm xk root.b.a) ∧ Only [] w w25 ∧ ChR true 15 w25 (Fr w5.heap.size) ⟨acc, root⟩ l10 (ndv root.b.k root.b.nm root.b.ini root.b.dft xe xl xm xk root.b.a), ?_, fun w27 hO27 _ _ => ?_⟩
      · rintro b1 l39 i87 s16 s17 s18 l40 l41 l42 l43 i88 l44 i89 i90 i91 i92 i93 i94 i95 i96 w25 ⟨rfl, z25, a1, a2, a3, a4⟩
        unfold endS
        refine ⟨fun hb => (swrong_c a1).mono ?_, fun hb => ?_⟩
        · rw [if_pos (of_decide_eq_true hb)]
          rintro _ w26 ⟨rfl, h26⟩
          obtain ⟨b1, b2, b3, b4⟩ := st a1 a2 a3 a4 h26
          have z26 := h26.o.size
          exact ⟨rfl, sm3 z25 h26.o (by simp), rs, _, _, _, _, _, _, _, _, b1.blk, l10, _, _, _, _, xe, xl, xm, xk, _, b2, by omega, b1, b2, b3, b4⟩
        · rw [if_neg (of_decide_eq_false hb)]
          exact ⟨z25, a1, a2, a3, a4⟩
      · have z27 := hO27.size
        obtain ⟨a1, a2, a3, a4⟩ := st r19 hB19 w19w c19 (r19.dn.q hO27)
        refine (sfine_c a1).mono ?_
        rintro _ w28 ⟨rfl, hO28⟩
        obtain ⟨b1, b2, b3, b4⟩ := st a1 a2 a3 a4 (a1.dn.q hO28)
        have z28 := hO28.size
        obtain ⟨ad, g1, g2⟩ := b1.now
        refine ⟨_, rfl, sm3 (by omega) hO28 (by simp), rs, _, _, _, _, _, _, _, _, b1.blk, l10, _, _, _, _, xe, xl, xm, xk, _, b2, fun hb => ⟨ad, g1, _, g2.at1 0 _ rfl, ?_, by omega, b1, b2, b3, b4⟩, fun hb => ⟨?_, by omega, b1, b2, b3, b4⟩⟩
        · have hb : s1.fc = 0 := by simpa using hb
          rw [Bool.eq_iff_iff]
          simp [hb]
        · have hb : ¬ s1.fc = 0 := by simpa using hb
          simp [hb]
end Go.Proofs.YtmanockofcopjaaGreatDoor.Con
