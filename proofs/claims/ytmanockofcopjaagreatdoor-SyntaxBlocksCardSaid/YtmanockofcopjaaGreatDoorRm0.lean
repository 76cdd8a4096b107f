/-
  Own work: texts of like pieces, as tokens; how many variables, and nodes, within each other too, there may be. No program in sight.
-/
import Derived.Test.YtmanockofcopjaaGreatDoorSSim
import Derived.Test.YtmanockofcopjaaGreatDoorSTx
namespace Go.Proofs.YtmanockofcopjaaGreatDoor.Con
open Go Go.RowKit Go.Kt Go.Kt.V
set_option linter.unusedSimpArgs false
set_option linter.unusedVariables false
set_option maxHeartbeats 4000000

/-! ## pieces of text and their tokens -/
def Pc (p : List UInt8) (ks : List K3) : Prop := ∀ (l : List UInt8) (i : Nat) (r : List UInt8) (ts : List Tk), i ≤ l.length → l.drop i = p ++ r → toks l (i + p.length) = .ok ts → ∃ us, toks l i = .ok (us ++ ts) ∧ us.map k3 = ks
theorem Pc.nil : Pc [] [] := fun _ _ _ _ _ _ h => ⟨[], h, rfl⟩
theorem Pc.app {p q : List UInt8} {a b : List K3} (h : Pc p a) (k : Pc q b) : Pc (p ++ q) (a ++ b) := by
  intro l i r ts hi hd ht
  rw [List.append_assoc] at hd
  obtain ⟨us, h1, h2⟩ := k _ _ _ _ (in_of hi hd) (drop_app hd) (by rw [Nat.add_assoc, ← List.length_append]; exact ht)
  obtain ⟨vs, h3, h4⟩ := h _ _ _ _ hi hd h1
  exact ⟨vs ++ us, by rw [List.append_assoc]; exact h3, by rw [List.map_append, h2, h4]⟩
def rep {α : Type} (p : List α) : Nat → List α
  | 0 => []
  | n + 1 => rep p n ++ p
theorem Pc.rep {p : List UInt8} {a : List K3} (h : Pc p a) : ∀ n, Pc (rep p n) (rep a n)
  | 0 => Pc.nil
  | n + 1 => Pc.app (Pc.rep h n) h
abbrev Pq3 := List UInt8 × List UInt8 × K3
def flatP : List Pq3 → List UInt8
  | [] => []
  | x :: L => x.1 ++ (x.2.1 ++ flatP L)
def okP : List Pq3 → List UInt8 → Prop
  | [], _ => True
  | x :: L, r => skN false (x.1 ++ (x.2.1 ++ (flatP L ++ r))) = x.1.length ∧ x.2.1 ≠ [] ∧ tokR (x.2.1 ++ (flatP L ++ r)) = .ok (x.2.2.1, x.2.2.2.1, x.2.2.2.2, x.2.1.length) ∧ okP L r
theorem pc_of : ∀ (L : List Pq3), (∀ r, okP L r) → Pc (flatP L) (L.map (·.2.2))
  | [], _ => Pc.nil
  | x :: L, h => fun l i r ts hi hd ht => by
    obtain ⟨h1, h2, h3, h4⟩ := h r
    have hd : l.drop i = x.1 ++ (x.2.1 ++ (flatP L ++ r)) := by rw [hd]; simp [flatP]
    have i1 := in_of hi hd
    have d1 := drop_app hd
    have i2 := in_of i1 d1
    have d2 := drop_app d1
    obtain ⟨us, k1, k2⟩ := pc_of L (fun r => (h r).2.2.2) _ _ _ _ i2 d2 (by
      have : (flatP (x :: L)).length = x.1.length + (x.2.1.length + (flatP L).length) := by simp [flatP]
      rw [this] at ht
      rw [← ht]
      congr 1
      omega)
    have hs : toks l i = toks l (i + x.1.length) := by
      have h5 := toks_skip hi
      rw [hd, h1] at h5
      exact h5
    have hb : skN false (x.2.1 ++ (flatP L ++ r)) = 0 := by
      have := sk_idem false (l.drop i)
      rw [hd, h1, List.drop_left] at this
      exact this
    refine ⟨⟨x.2.2.1, x.2.2.2.1, x.2.2.2.2, (i + x.1.length : Nat)⟩ :: us, ?_, ?_⟩
    · rw [hs, tok_n d1 h2 hb h3 k1]
      rfl
    · rw [List.map_cons, List.map_cons, k2]
      rfl
def kS (c : UInt8) : K3 := (4, [c], 0)
def kN (c : UInt8) : K3 := (1, [c], 0)
def kW (l : List UInt8) : K3 := (2, l, 0)
/-- chart c { -/
def pChart : List Pq3 := [([], wChart, kW wChart), ([32], [99], kN 99), ([32], [123], kS 123)]
/-- a variable -/
def pVar : List Pq3 := [([32], wVar, kW wVar), ([32], [118], kN 118), ([32], [61], kS 61), ([32], [48], (3, [], 0)), ([], [59], kS 59)]
/-- a history -/
def pHist : List Pq3 := [([32], wHistory, kW wHistory), ([32], [104], kN 104), ([32], [45, 62], (4, [45, 62], 0)), ([32], [99], kN 99), ([], [59], kS 59)]
/-- a state -/
def pState : List Pq3 := [([32], wState, kW wState), ([32], [115], kN 115), ([32], [123], kS 123)]
def pShut : List Pq3 := [([], [125], kS 125)]
def pEnd : List Pq3 := [([32], [125], kS 125)]
theorem sg_one {c : UInt8} (h0 : letterB c = false) (h1 : digitB c = false) (h2 : [60, 62, 61, 33].contains c = false) (h3 : [38, 124].contains c = false) (h4 : (c == 45) = false) (h5 : shortL.contains c = true) (r : List UInt8) : tokR (c :: r) = .ok (4, [c], 0, 1) := by
  have hs : sign2 (c :: r) = false := by
    cases r with
    | nil => rfl
    | cons d r =>
      show ((d == 61 && [60, 62, 61, 33].contains c) || (d == c && [38, 124].contains c) || (c == 45 && d == 62)) = false
      rw [h2, h3, h4, Bool.and_false, Bool.and_false, Bool.false_and]
      rfl
  have hn : signN (c :: r) = 1 := by
    unfold signN
    rw [if_neg (by rw [hs]; decide)]
    show (if shortL.contains c then 1 else 0) = 1
    rw [if_pos h5]
  rw [tok_cons, if_neg (by rw [h0]; decide), if_neg (by rw [h1]; decide)]
  unfold signR
  rw [hn, if_neg (by decide)]
  rfl
theorem t123 (r : List UInt8) : tokR (123 :: r) = .ok (4, [123], 0, 1) := sg_one (by decide) (by decide) (by decide) (by decide) (by decide) (by decide) r
theorem t125 (r : List UInt8) : tokR (125 :: r) = .ok (4, [125], 0, 1) := sg_one (by decide) (by decide) (by decide) (by decide) (by decide) (by decide) r
theorem t59 (r : List UInt8) : tokR (59 :: r) = .ok (4, [59], 0, 1) := sg_one (by decide) (by decide) (by decide) (by decide) (by decide) (by decide) r
theorem chart_ok (r : List UInt8) : okP pChart r := ⟨rfl, by decide, rfl, rfl, by decide, rfl, rfl, by decide, t123 r, trivial⟩
theorem var_ok (r : List UInt8) : okP pVar r := ⟨rfl, by decide, rfl, rfl, by decide, rfl, rfl, by decide, rfl, rfl, by decide, rfl, rfl, by decide, t59 r, trivial⟩
theorem hist_ok (r : List UInt8) : okP pHist r := ⟨rfl, by decide, rfl, rfl, by decide, rfl, rfl, by decide, rfl, rfl, by decide, rfl, rfl, by decide, t59 r, trivial⟩
theorem state_ok (r : List UInt8) : okP pState r := ⟨rfl, by decide, rfl, rfl, by decide, rfl, rfl, by decide, t123 r, trivial⟩
theorem shut_ok (r : List UInt8) : okP pShut r := ⟨rfl, by decide, t125 r, trivial⟩
theorem end_ok (r : List UInt8) : okP pEnd r := ⟨rfl, by decide, t125 r, trivial⟩
/-- tokens without places -/
def mkT (ks : List K3) : List Tk := (ks ++ [(5, [], 0)]).map fun q : K3 => ⟨q.1, q.2.1, q.2.2, 0⟩
theorem mkT_k3 (ks : List K3) : (mkT ks).map k3 = ks ++ [(5, [], 0)] := by
  unfold mkT
  rw [List.map_map]
  have : (k3 ∘ fun q : K3 => (⟨q.1, q.2.1, q.2.2, 0⟩ : Tk)) = id := rfl
  rw [this, List.map_id]
/-- a text of pieces: its fault's code is that of its tokens -/
theorem code_pc {l : List UInt8} {ks : List K3} (h : Pc l ks) (hl : l.length ≤ 16384) : (parseC l).2.1 = (chartS (mkT ks)).2.fc := by
  have h0 : toks l (0 + l.length) = .ok [⟨5, [], 0, (l.length : Nat)⟩] := by
    have e : skN false ([] : List UInt8) = 0 := rfl
    rw [Nat.zero_add, toks_step (Nat.le_refl _), List.drop_length, e, if_pos (by omega)]
    rfl
  obtain ⟨us, h1, h2⟩ := h _ _ _ _ (Nat.zero_le _) (by rw [List.append_nil, List.drop_zero]) h0
  have ht : tokensM l = (us ++ [⟨5, [], 0, (l.length : Nat)⟩], 0, 0) := by
    unfold tokensM
    rw [if_neg (by omega), h1]
  have hA : Al (us ++ [⟨5, [], 0, (l.length : Nat)⟩]) (mkT ks) := al_of (by
    rw [mkT_k3, List.map_append, h2]
    rfl)
  have hc := (chart_a hA).2.fc
  unfold parseC
  rw [ht]
  dsimp only
  rw [if_neg (fun h => h rfl), hc]
  by_cases e : (chartS (us ++ [⟨5, [], 0, (l.length : Nat)⟩])).2.fc ≠ 0
  · rw [if_pos e]
  · rw [if_neg e]
    exact (Decidable.not_not.1 e).symm

/-! ## the rooms -/
def ksOf (L : List Pq3) : List K3 := L.map (·.2.2)
def ksV (v : Nat) : List K3 := ksOf pChart ++ rep (ksOf pVar) v ++ ksOf pEnd
def ksH (n : Nat) : List K3 := ksOf pChart ++ rep (ksOf pHist) n ++ ksOf pEnd
def ksD (d : Nat) : List K3 := ksOf pChart ++ rep (ksOf pState) d ++ rep (ksOf pShut) d ++ ksOf pEnd
def txV (v : Nat) : List UInt8 := flatP pChart ++ rep (flatP pVar) v ++ flatP pEnd
def txH (n : Nat) : List UInt8 := flatP pChart ++ rep (flatP pHist) n ++ flatP pEnd
def txD (d : Nat) : List UInt8 := flatP pChart ++ rep (flatP pState) d ++ rep (flatP pShut) d ++ flatP pEnd
theorem pcV (v : Nat) : Pc (txV v) (ksV v) := Pc.app (Pc.app (pc_of _ chart_ok) (Pc.rep (pc_of _ var_ok) v)) (pc_of _ end_ok)
theorem pcH (n : Nat) : Pc (txH n) (ksH n) := Pc.app (Pc.app (pc_of _ chart_ok) (Pc.rep (pc_of _ hist_ok) n)) (pc_of _ end_ok)
theorem pcD (d : Nat) : Pc (txD d) (ksD d) := Pc.app (Pc.app (Pc.app (pc_of _ chart_ok) (Pc.rep (pc_of _ state_ok) d)) (Pc.rep (pc_of _ shut_ok) d)) (pc_of _ end_ok)
theorem rep_len {α : Type} (p : List α) : ∀ n, (rep p n).length = n * p.length
  | 0 => by simp [rep]
  | n + 1 => by rw [rep, List.length_append, rep_len p n, Nat.succ_mul]
theorem roomV : ∀ v : Fin 32, (chartS (mkT (ksV v.val))).2.fc = if v.val ≤ 16 then 0 else 2 := by decide +kernel
theorem roomH : ∀ n : Fin 128, (chartS (mkT (ksH n.val))).2.fc = if n.val < 64 then 0 else 2 := by decide +kernel
theorem roomD : ∀ d : Fin 16, (chartS (mkT (ksD d.val))).2.fc = if d.val < 12 then 0 else 21 := by decide +kernel
end Go.Proofs.YtmanockofcopjaaGreatDoor.Con
