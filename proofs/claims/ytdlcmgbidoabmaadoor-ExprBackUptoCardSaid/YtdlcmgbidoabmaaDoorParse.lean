/-
  Own work: the tokens of a right tree are read as the tree.
-/
import Derived.Test.YtdlcmgbidoabmaaDoorPrint
namespace Go.Proofs.YtdlcmgbidoabmaaDoor.Con
open Go Go.RowKit Go.Kt Go.Kt.V
set_option linter.unusedSimpArgs false
set_option linter.unusedVariables false
set_option maxHeartbeats 4000000

def At (ts : List Tk) (i : Nat) (L : List K3) : Prop := ∀ j q, L[j]? = some q → k3 (tk ts (i + j)) = q
section
variable {ts : List Tk} {i : Nat} {A B : List K3}
theorem At.left (h : At ts i (A ++ B)) : At ts i A := fun j q hj => h j q (by rw [List.getElem?_append_left (List.getElem?_eq_some_iff.1 hj).1]; exact hj)
theorem At.right (h : At ts i (A ++ B)) : At ts (i + A.length) B := fun j q hj => by
  have := h (A.length + j) q (by rw [List.getElem?_append_right (by omega), Nat.add_sub_cancel_left]; exact hj)
  rwa [← Nat.add_assoc] at this
theorem At.head {q : K3} (h : At ts i (q :: A)) : (tk ts i).k = q.1 ∧ (tk ts i).t = q.2.1 ∧ (tk ts i).n = q.2.2 := by
  have := h 0 q rfl
  rw [Nat.add_zero] at this
  rw [← this]
  exact ⟨rfl, rfl, rfl⟩
theorem At.tail {q : K3} (h : At ts i (q :: A)) : At ts (i + 1) A := fun j p hj => by
  have := h (j + 1) p hj
  rwa [Nat.add_assoc, Nat.add_comm 1 j]
theorem opTx_inj {p q : Nat} (hp : 1 ≤ p) (hp2 : p ≤ 13) (hq : 1 ≤ q) (hq2 : q ≤ 13) (h : opTx p = opTx q) : p = q := by
  have : ∀ p, p < 14 → ∀ q, q < 14 → 1 ≤ p → 1 ≤ q → opTx p = opTx q → p = q := by decide
  exact this p (by omega) q (by omega) hp hq h
theorem op_at {op : Nat} (h1 : 1 ≤ op) (h2 : op ≤ 13) (hk : (tk ts i).k = 4) (ht : (tk ts i).t = opTx op) (k : Int) : opAt ts k i = if rowOf (op : Int) = k then (op : Int) else 0 := by
  have : ∀ (f q : Nat), 1 ≤ q → q + f ≤ 14 → opFrom ts k i f q = if q ≤ op ∧ op < q + f ∧ rowOf (op : Int) = k then (op : Int) else 0 := by
    intro f
    induction f with
    | zero => intro q _ _; rw [if_neg (by omega)]; rfl
    | succ f ih =>
      intro q hq hf
      rw [opFrom, ih (q + 1) (by omega) (by omega)]
      by_cases he : q = op
      · subst he
        have hs : sg ts i (opTx q) = true := sg_t ⟨hk, ht⟩
        by_cases hr : rowOf (q : Int) = k
        · rw [if_pos ⟨hr, hs⟩, if_pos ⟨Nat.le_refl _, by omega, hr⟩]
        · rw [if_neg (fun h => hr h.1), if_neg (by omega), if_neg (fun h => hr h.2.2)]
      · have hs : ¬ sg ts i (opTx q) = true := fun hs => he (by
          simp only [sg, Bool.and_eq_true, decide_eq_true_eq] at hs
          exact opTx_inj hq (by omega) h1 h2 (by rw [← ht, hs.2]))
        rw [if_neg (fun h => hs h.2)]
        by_cases hc : q + 1 ≤ op ∧ op < q + 1 + f ∧ rowOf (op : Int) = k
        · rw [if_pos hc, if_pos ⟨by omega, by omega, hc.2.2⟩]
        · rw [if_neg hc, if_neg (fun h => hc ⟨by omega, by omega, h.2.2⟩)]
  rw [opAt, this 13 1 (by omega) (by omega)]
  by_cases hr : rowOf (op : Int) = k
  · rw [if_pos hr, if_pos ⟨h1, by omega, hr⟩]
  · rw [if_neg hr, if_neg (fun h => hr h.2.2)]
theorem row_rng {op : Int} (h1 : 1 ≤ op) (h2 : op ≤ 13) : 0 ≤ rowOf op ∧ rowOf op ≤ 5 := by
  unfold rowOf
  split
  · omega
  split
  · omega
  split
  · omega
  split
  · omega
  split
  · omega
  split
  · omega
  · omega
theorem down_ok {f d k0 : Nat} {x : Ex} {j : Nat} (h : exprR ts f k0 d i = .ok (x, j)) (h6 : k0 ≤ 6) : ∀ (m k : Nat), k + m = k0 → (∀ q : Int, (k : Int) ≤ q → q < (k0 : Int) → opAt ts q j = 0) → exprR ts (f + m) k d i = .ok (x, j)
  | 0, k, hk, _ => by
    have : k = k0 := by omega
    subst this
    exact h
  | m + 1, k, hk, h0 => by
    rw [← Nat.add_assoc, exprR, if_neg (by omega), down_ok h h6 m (k + 1) (by omega) fun q h1 h2 => h0 q (by omega) h2]
    simp only [andR]
    exact loop0 (h0 _ (Int.le_refl _) (by omega)) _
theorem down_err {f d k0 : Nat} {e : Int × Int} (h : exprR ts f k0 d i = .error e) (h6 : k0 ≤ 6) : ∀ (m k : Nat), k + m = k0 → exprR ts (f + m) k d i = .error e
  | 0, k, hk => by
    have : k = k0 := by omega
    subst this
    exact h
  | m + 1, k, hk => by
    rw [← Nat.add_assoc, exprR, if_neg (by omega), down_err h h6 m (k + 1) (by omega)]
    rfl
end
/-- it is read, or it is too deep -/
def Ok5 (x : Ex) (j : Nat) (r : Pr) : Prop := (∃ x', r = .ok (x', j) ∧ Sim x x') ∨ ∃ a, r = .error (21, a)
theorem Ok5.down {ts : List Tk} {i f d k0 k : Nat} {x : Ex} {j : Nat} (h : Ok5 x j (exprR ts (f - (k0 - k)) k0 d i)) (hf : k0 - k ≤ f) (h6 : k0 ≤ 6) (hk : k ≤ k0) (h0 : ∀ q : Int, (k : Int) ≤ q → q < (k0 : Int) → opAt ts q j = 0) : Ok5 x j (exprR ts f k d i) := by
  have e : f = (f - (k0 - k)) + (k0 - k) := by omega
  rcases h with ⟨x', h1, h2⟩ | ⟨a, h1⟩
  · exact .inl ⟨x', by rw [e]; exact down_ok h1 h6 _ k (by omega) h0, h2⟩
  · exact .inr ⟨a, by rw [e]; exact down_err h1 h6 _ k (by omega)⟩
abbrev PP (ts : List Tk) (d : Nat) : Prop := ∀ {x : Ex} (wr : Bool) (k dd i f : Nat), shapeM d x = true → At ts i (ptk d x wr) → k ≤ 6 → (wr = false → (k : Int) ≤ levM x) → dd ≤ 20 → need k dd ≤ f → i + (ptk d x wr).length < ts.length → (∀ q : Int, (k : Int) ≤ q → q ≤ 5 → opAt ts q (i + (ptk d x wr).length) = 0) → Ok5 x (i + (ptk d x wr).length) (exprR ts f k dd i)
abbrev QQ (ts : List Tk) (d : Nat) : Prop := ∀ {x : Ex} (k dd i f : Nat), shapeM d x = true → x.k = 5 → (k : Int) = levM x → At ts i (ptk d x false) → dd ≤ 20 → need k dd ≤ f + 1 → i + (ptk d x false).length < ts.length → (∀ q : Int, (k : Int) < q → q ≤ 5 → opAt ts q (i + (ptk d x false).length) = 0) →
  (∃ x' g, ts.length - (i + (ptk d x false).length) ≤ g ∧ exprR ts (f + 1) k dd i = loopR ts (exprR ts f (k + 1) dd) k g x' (i + (ptk d x false).length) ∧ Sim x x') ∨ ∃ a, exprR ts (f + 1) k dd i = .error (21, a)
theorem ex_eta (x : Ex) : x = .mk x.k x.n x.s x.op x.subs x.a := by cases x; rfl
section
variable {ts : List Tk} {d : Nat}
theorem qq_step (hP : PP ts d) (hQ : QQ ts d) : QQ ts (d + 1) := by
  intro x k dd i f hsh hk5 hkl hat hdd hf hlt h0
  rw [shapeM, Bool.and_eq_true] at hsh
  obtain ⟨hh, ha⟩ := hsh
  obtain ⟨_, y, z, hy, ho1, ho2⟩ := head5 hh (by omega) (by omega) (by omega) (by omega)
  have hnx : x.n = 0 ∧ x.s = [] := by
    rw [headM, if_neg (by omega), if_neg (by omega), if_neg (by omega), if_pos hk5, Bool.and_eq_true] at hh
    have := eqM_t hh.2
    exact ⟨this.1, this.2.1⟩
  have hlx : levM x = rowOf x.op := by rw [levM, if_pos hk5]
  obtain ⟨r0, r5⟩ := row_rng ho1 ho2
  have e2 : ptk (d + 1) x false = (ptk d y (decide (levM y < levM x)) ++ (4, opTx x.op.toNat, 0) :: ptk d z (decide (levM z ≤ levM x))) := by
    rw [ptk, if_neg (by omega), if_neg (by omega), if_neg (by omega), if_neg (by omega), hy]
    simp [opk, clk]
  rw [e2] at hat hlt h0 ⊢
  rw [hy] at ha
  simp only [all1, Bool.and_true, Bool.and_eq_true] at ha
  have hatY := hat.left
  have hatO := hat.right
  have hatZ := hatO.tail
  obtain ⟨t1, t2, _⟩ := hatO.head
  rw [List.length_append, List.length_cons] at hlt h0 ⊢
  generalize hj1 : i + (ptk d y (decide (levM y < levM x))).length = j1 at *
  have hjz : i + ((ptk d y (decide (levM y < levM x))).length + ((ptk d z (decide (levM z ≤ levM x))).length + 1)) = j1 + 1 + (ptk d z (decide (levM z ≤ levM x))).length := by omega
  rw [hjz] at hlt h0 ⊢
  generalize hj2 : j1 + 1 + (ptk d z (decide (levM z ≤ levM x))).length = j2 at *
  have hop : ∀ q : Int, opAt ts q j1 = if rowOf x.op = q then x.op else 0 := fun q => by
    have := op_at (ts := ts) (i := j1) (op := x.op.toNat) (by omega) (by omega) t1 t2 q
    rwa [Int.toNat_of_nonneg (by omega)] at this
  have hex : x = .mk 5 0 [] x.op [y, z] x.a := by
    have := ex_eta x
    rw [hk5, hnx.1, hnx.2, hy] at this
    exact this
  have hneed : need (k + 1) dd ≤ f := by unfold need at hf ⊢; omega
  -- the left part
  have hleft : (∃ y' g, ts.length - j1 ≤ g ∧ exprR ts (f + 1) k dd i = loopR ts (exprR ts f (k + 1) dd) k g y' j1 ∧ Sim y y') ∨ ∃ a, exprR ts (f + 1) k dd i = .error (21, a) := by
    by_cases hB : levM y = levM x
    · have hwr : decide (levM y < levM x) = false := decide_eq_false (by omega)
      have hy5 : y.k = 5 := by
        refine Decidable.byContradiction fun hn => ?_
        have : levM y = 6 := by rw [levM, if_neg hn]
        omega
      rw [hwr] at hatY hj1
      have := hQ (x := y) k dd i f ha.1 hy5 (by rw [hB]; exact hkl) hatY hdd hf (by omega) (fun q h1 h2 => by rw [hj1, hop, if_neg (by omega)])
      rw [hj1] at this
      exact this
    · have := hP (x := y) (decide (levM y < levM x)) (k + 1) dd i f ha.1 hatY (by omega) (fun hw => by have := of_decide_eq_false hw; omega) hdd hneed (by omega) (fun q h1 h2 => by rw [hj1, hop, if_neg (by omega)])
      rw [hj1] at this
      rw [exprR, if_neg (by omega)]
      rcases this with ⟨y', h1, h2⟩ | ⟨a, h1⟩
      · exact .inl ⟨y', ts.length - j1, Nat.le_refl _, by rw [h1]; rfl, h2⟩
      · exact .inr ⟨a, by rw [h1]; rfl⟩
  refine hleft.elim (fun ⟨y', g, hg, h1, h2⟩ => ?_) .inr
  obtain ⟨g, rfl⟩ : ∃ m, g = m + 1 := ⟨g - 1, by omega⟩
  have hok : opAt ts (k : Int) j1 = x.op := by rw [hop, if_pos (by omega)]
  have hz := hP (x := z) (decide (levM z ≤ levM x)) (k + 1) dd (j1 + 1) f ha.2 hatZ (by omega) (fun hw => by have := of_decide_eq_false hw; omega) hdd hneed (by omega) (fun q h1 h2 => by rw [hj2]; exact h0 q (by omega) h2)
  rw [hj2] at hz
  rw [h1, loopR, hok, if_neg (by omega)]
  rcases hz with ⟨z', h3, h4⟩ | ⟨a, h3⟩
  · refine .inl ⟨.mk 5 0 [] x.op [y', z'] y'.a, g, by omega, by rw [h3]; rfl, ?_⟩
    rw [hex]
    exact .two _ _ _ _ _ _ _ _ _ _ h2 h4
  · exact .inr ⟨a, by rw [h3]; rfl⟩
theorem pp_step (hP : PP ts d) (hQ : QQ ts d) : PP ts (d + 1) := by
  -- without parentheses
  have plain : ∀ {x : Ex} (k dd i f : Nat), shapeM (d + 1) x = true → At ts i (ptk (d + 1) x false) → k ≤ 6 → (k : Int) ≤ levM x → dd ≤ 20 → need k dd ≤ f → i + (ptk (d + 1) x false).length < ts.length → (∀ q : Int, (k : Int) ≤ q → q ≤ 5 → opAt ts q (i + (ptk (d + 1) x false).length) = 0) → Ok5 x (i + (ptk (d + 1) x false).length) (exprR ts f k dd i) := by
    intro x k dd i f hsh hat hk6 hkl hdd hf hlt h0
    have hsh0 := hsh
    rw [shapeM, Bool.and_eq_true] at hsh
    obtain ⟨hh, ha⟩ := hsh
    by_cases hk5 : x.k = 5
    · obtain ⟨_, y, z, hy, ho1, ho2⟩ := head5 hh (by omega) (by omega) (by omega) (by omega)
      have hlx : levM x = rowOf x.op := by rw [levM, if_pos hk5]
      obtain ⟨r0, r5⟩ := row_rng ho1 ho2
      obtain ⟨k0, hk0⟩ : ∃ k0 : Nat, (k0 : Int) = levM x := ⟨(levM x).toNat, by omega⟩
      refine Ok5.down (k0 := k0) ?_ (by unfold need at hf; omega) (by omega) (by omega) fun q h1 h2 => h0 q h1 (by omega)
      obtain ⟨f', hf'⟩ : ∃ m, f - (k0 - k) = m + 1 := ⟨f - (k0 - k) - 1, by unfold need at hf; omega⟩
      rw [hf']
      rcases qq_step hP hQ k0 dd i f' hsh0 hk5 hk0 hat hdd (by unfold need at hf ⊢; omega) hlt (fun q h1 h2 => h0 q (by omega) h2) with ⟨x', g, hg, h1, h2⟩ | h
      · exact .inl ⟨x', by rw [h1]; exact loop0 (h0 _ (by omega) (by omega)) _, h2⟩
      · exact .inr h
    · have hlx : levM x = 6 := by rw [levM, if_neg hk5]
      refine Ok5.down (k0 := 6) ?_ (by unfold need at hf; omega) (by omega) (by omega) fun q h1 h2 => h0 q h1 (by omega)
      obtain ⟨f', hf'⟩ : ∃ m, f - (6 - k) = m + 1 := ⟨f - (6 - k) - 1, by unfold need at hf; omega⟩
      have hneed : (20 - dd) * 8 ≤ f' := by unfold need at hf; omega
      rw [hf', exprR, if_pos rfl]
      unfold oneR
      by_cases k1 : x.k = 1
      · have e2 : ptk (d + 1) x false = [(3, [], x.n)] := by rw [ptk, if_pos k1]; rfl
        rw [e2] at hat ⊢
        obtain ⟨t1, t2, t3⟩ := hat.head
        dsimp only at t1 t2 t3
        rw [sg_f t2 (by decide), sg_f t2 (by decide), sg_f t2 (by decide), if_neg (by decide), if_neg (by decide), if_pos t1, t3]
        refine .inl ⟨_, rfl, ?_⟩
        rw [headM, if_pos k1] at hh
        obtain ⟨_, b2, b3, b4⟩ := eqM_t hh
        have hs : x.subs = [] := List.eq_nil_of_length_eq_zero (by omega)
        have := ex_eta x
        rw [k1, b2, b3, hs] at this
        rw [this]
        exact .leaf ..
      by_cases k2 : x.k = 2
      · have e2 : ptk (d + 1) x false = [(1, x.s, 0)] := by rw [ptk, if_neg k1, if_pos k2]; rfl
        rw [e2] at hat ⊢
        obtain ⟨t1, t2, t3⟩ := hat.head
        dsimp only at t1 t2 t3
        have hs4 : ∀ s, sg ts i s = false := fun s => by unfold sg; rw [t1]; rfl
        rw [hs4, hs4, hs4, if_neg (by decide), if_neg (by decide), if_neg (by rw [t1]; decide), if_pos t1, t2]
        refine .inl ⟨_, rfl, ?_⟩
        rw [headM, if_neg k1, if_pos (.inl k2), Bool.and_eq_true] at hh
        obtain ⟨b1, b2, b3, b4⟩ := eqM_t hh.2
        have hs : x.subs = [] := List.eq_nil_of_length_eq_zero (by omega)
        have := ex_eta x
        rw [k2, b1, b3, hs] at this
        rw [this]
        exact .leaf ..
      by_cases k3' : x.k = 3
      · have e2 : ptk (d + 1) x false = [(2, [105, 110], 0), (4, [40], 0), (1, x.s, 0), (4, [41], 0)] := by rw [ptk, if_neg k1, if_neg k2, if_pos k3']; rfl
        rw [e2] at hat ⊢
        obtain ⟨t1, t2, t3⟩ := hat.head
        obtain ⟨u1, u2, u3⟩ := hat.tail.head
        obtain ⟨v1, v2, v3⟩ := hat.tail.tail.head
        obtain ⟨p1, p2, p3⟩ := hat.tail.tail.tail.head
        dsimp only at t1 t2 t3 u1 u2 u3 v1 v2 v3 p1 p2 p3
        have hs4 : ∀ s, sg ts i s = false := fun s => by unfold sg; rw [t1]; rfl
        rw [hs4, hs4, hs4, if_neg (by decide), if_neg (by decide), if_neg (by rw [t1]; decide), if_neg (by rw [t1]; decide), if_pos ⟨t1, t2⟩]
        unfold inR
        rw [if_pos (sg_t ⟨u1, u2⟩), if_pos v1, if_pos (sg_t ⟨p1, p2⟩)]
        refine .inl ⟨_, rfl, ?_⟩
        rw [headM, if_neg k1, if_pos (.inr k3'), Bool.and_eq_true] at hh
        obtain ⟨b1, b2, b3, b4⟩ := eqM_t hh.2
        have hs : x.subs = [] := List.eq_nil_of_length_eq_zero (by omega)
        have := ex_eta x
        rw [k3', b1, b3, hs] at this
        have v2 : (tk ts (i + 2)).t = x.s := v2
        rw [v2, this]
        exact .leaf ..
      have k4 : x.k = 4 := Decidable.byContradiction fun k4 => hk5 (head5 hh k1 k2 k3' k4).1
      obtain ⟨y, hy, ho⟩ := head4 hh k4
      have e2 : ptk (d + 1) x false = (4, opTx x.op.toNat, 0) :: ptk d y (decide (levM y < 6)) := by
        rw [ptk, if_neg k1, if_neg k2, if_neg k3', if_pos k4, hy]
        simp [opk, clk]
      rw [e2] at hat hlt ⊢
      rw [hy] at ha
      simp only [all1, Bool.and_true] at ha
      obtain ⟨t1, t2, t3⟩ := hat.head
      dsimp only at t1 t2 t3
      have hor : (sg ts i [45] || sg ts i [33]) = true := by
        rcases ho with ho | ho
        · have : sg ts i [45] = true := sg_t ⟨t1, by rw [t2, ho]; rfl⟩
          rw [this, Bool.true_or]
        · have : sg ts i [33] = true := sg_t ⟨t1, by rw [t2, ho]; rfl⟩
          rw [this, Bool.or_true]
      rw [if_pos hor]
      by_cases h20 : dd = 20
      · exact .inr ⟨(tk ts i).a, by rw [nestR, if_pos h20]; rfl⟩
      rw [nestR, if_neg h20]
      rw [List.length_cons] at hlt ⊢
      have hj : i + ((ptk d y (decide (levM y < 6))).length + 1) = i + 1 + (ptk d y (decide (levM y < 6))).length := by omega
      rw [hj] at hlt ⊢
      have hy6 : levM y ≤ 6 := by
        unfold levM rowOf
        split
        · split
          · omega
          split
          · omega
          split
          · omega
          split
          · omega
          split
          · omega
          split
          · omega
          · omega
        · omega
      rcases hP (x := y) (decide (levM y < 6)) 6 (dd + 1) (i + 1) f' ha hat.tail (Nat.le_refl _) (fun hw => by have := of_decide_eq_false hw; omega) (by omega) (by unfold need; omega) hlt (fun q h1 h2 => by omega) with ⟨y', h1, h2⟩ | ⟨a, h1⟩
      · refine .inl ⟨_, by rw [h1]; rfl, ?_⟩
        rw [headM, if_neg k1, if_neg (by omega), if_pos k4] at hh
        obtain ⟨b1, b2, b3, b4⟩ := eqM_t hh
        have hop : (if (tk ts i).t = [33] then (15 : Int) else 14) = x.op := by
          rcases ho with ho | ho
          · rw [t2, ho]; rfl
          · rw [t2, ho]; rfl
        have := ex_eta x
        rw [k4, b1, b2, hy] at this
        rw [hop, this]
        exact .one _ _ _ _ _ _ _ _ h2
      · exact .inr ⟨a, by rw [h1]; rfl⟩
  intro x wr k dd i f hsh hat hk6 hkl hdd hf hlt h0
  cases wr with
  | false => exact plain k dd i f hsh hat hk6 (hkl rfl) hdd hf hlt h0
  | true =>
    have e2 : ptk (d + 1) x true = (4, [40], 0) :: (ptk (d + 1) x false ++ [(4, [41], 0)]) := by
      unfold ptk
      simp [opk, clk]
    refine Ok5.down (k0 := 6) ?_ (by unfold need at hf; omega) (by omega) (by omega) fun q h1 h2 => h0 q h1 (by omega)
    rw [e2] at hat hlt ⊢
    obtain ⟨f', hf'⟩ : ∃ m, f - (6 - k) = m + 1 := ⟨f - (6 - k) - 1, by unfold need at hf; omega⟩
    have hneed : (20 - dd) * 8 ≤ f' := by unfold need at hf; omega
    obtain ⟨t1, t2, t3⟩ := hat.head
    have hin := hat.tail.left
    obtain ⟨p1, p2, p3⟩ := hat.tail.right.head
    dsimp only at t1 t2 t3 p1 p2 p3
    rw [hf', exprR, if_pos rfl]
    unfold oneR
    rw [sg_f t2 (by decide), sg_f t2 (by decide), sg_t ⟨t1, t2⟩, if_neg (by decide), if_pos rfl]
    by_cases h20 : dd = 20
    · exact .inr ⟨(tk ts i).a, by rw [nestR, if_pos h20]⟩
    rw [nestR, if_neg h20]
    rw [List.length_cons, List.length_append, List.length_singleton] at hlt ⊢
    have hj : i + ((ptk (d + 1) x false).length + 1 + 1) = i + 1 + (ptk (d + 1) x false).length + 1 := by omega
    rw [hj] at hlt ⊢
    have hlev : 0 ≤ levM x := by
      unfold levM rowOf
      split
      · split
        · omega
        split
        · omega
        split
        · omega
        split
        · omega
        split
        · omega
        split
        · omega
        · omega
      · omega
    rcases plain 0 (dd + 1) (i + 1) f' hsh hin (by omega) (by omega) (by omega) (by unfold need; omega) (by omega) (fun q h1 h2 => op_of p2 (by decide) q) with ⟨x', h1, h2⟩ | ⟨a, h1⟩
    · refine .inl ⟨x', ?_, h2⟩
      rw [h1]
      simp only [parR]
      rw [if_pos (sg_t ⟨p1, p2⟩)]
    · exact .inr ⟨a, by rw [h1]; rfl⟩
theorem pp_qq (ts : List Tk) : ∀ d, PP ts d ∧ QQ ts d
  | 0 => ⟨(by intro x wr k dd i f h; cases h), (by intro x k dd i f h; cases h)⟩
  | d + 1 => ⟨pp_step (pp_qq ts d).1 (pp_qq ts d).2, qq_step (pp_qq ts d).1 (pp_qq ts d).2⟩
end
theorem back_law {d : Nat} {x : Ex} (hs : shapeM d x = true) (hn : numOk d x) (hr : (readA (pgM d x false [])).2.1 = 0) : (pgM d x false []).length ≤ 16384 ∧ Sim x (readA (pgM d x false [])).1 := by
  have hlen : (pgM d x false []).length ≤ 16384 := by
    refine Decidable.byContradiction fun hc => ?_
    unfold readA at hr
    have : tokensM (pgM d x false []) = ([], 2, -1) := by rw [tokensM, if_pos (by omega)]
    rw [this, if_pos (by decide)] at hr
    exact absurd hr (show ¬ (2 : Int) = 0 by decide)
  refine ⟨hlen, ?_⟩
  have htx := pg_tx d false [] hs hlen
  rw [List.nil_append] at htx
  rw [htx] at hr hlen ⊢
  generalize hL : txM d x false = L at *
  have hend : toks L (0 + L.length) = .ok [⟨5, [], 0, ((L.length : Nat) : Int)⟩] := by
    have hd : L.drop L.length = [] := List.drop_of_length_le (Nat.le_refl _)
    have h5 : skN false [] = 0 := rfl
    rw [Nat.zero_add, toks_step (Nat.le_refl _), hd, h5, if_pos (by omega)]
    rfl
  obtain ⟨us, h1, h2⟩ := tx_toks (l := L) d (x := x) false 0 (r := []) hs hn (Nat.zero_le _) (by rw [List.drop_zero, List.append_nil, hL]) (fun c hc => by cases hc) (by rw [hL]; exact hend)
  generalize hts : us ++ [(⟨5, [], 0, ((L.length : Nat) : Int)⟩ : Tk)] = ts at *
  have t1 : tokensM L = (ts, 0, 0) := by
    rw [tokensM, if_neg (by omega), h1]
  have hul : us.length = (ptk d x false).length := by rw [← h2, List.length_map]
  have htl : ts.length = us.length + 1 := by rw [← hts, List.length_append, List.length_singleton]
  have hat : At ts 0 (ptk d x false) := fun j q hj => by
    rw [← h2, List.getElem?_map, Option.map_eq_some_iff] at hj
    obtain ⟨t, g1, rfl⟩ := hj
    have : tk ts (0 + j) = t := by
      unfold tk
      rw [← hts, Nat.zero_add, List.getElem?_append_left (List.getElem?_eq_some_iff.1 g1).1, g1]
      rfl
    rw [this]
  have hke : (tk ts us.length).k = 5 := by
    unfold tk
    rw [← hts, List.getElem?_append_right (Nat.le_refl _), Nat.sub_self]
    rfl
  have hlev : 0 ≤ levM x := by
    unfold levM rowOf
    split
    · split
      · omega
      split
      · omega
      split
      · omega
      split
      · omega
      split
      · omega
      split
      · omega
      · omega
    · omega
  have hP := (pp_qq ts d).1 (x := x) false 0 0 0 (need 0 0) hs hat (by decide) (fun _ => by omega) (by decide) (Nat.le_refl _) (by omega) (fun q _ _ => op_end (by rw [Nat.zero_add, ← hul]; exact hke) q)
  have hpr : parseR ts 0 = exprR ts (need 0 0) 0 0 0 := rfl
  rw [← hpr] at hP
  have hrd : readA L = if (parseA ts 0).2.2.1 ≠ 0 then (ex0, (parseA ts 0).2.2.1, (parseA ts 0).2.2.2) else if (tk ts (parseA ts 0).2.1.toNat).k ≠ 5 then (ex0, 4, (tk ts (parseA ts 0).2.1.toNat).a) else ((parseA ts 0).1, 0, (parseA ts 0).2.2.2) := by
    unfold readA
    rw [t1]
    rfl
  rw [hrd] at hr ⊢
  have hpa : parseA ts 0 = if 0 < ts.length ∧ endN ts + 1 = ts.length then (match parseR ts 0 with
    | .error (c, p) => (ex0, 0, c, p)
    | .ok (x, j) => (x, (j : Int), 0, 0)) else (ex0, 0, 1, -1) := by
    unfold parseA
    by_cases hc : 0 < ts.length ∧ endN ts + 1 = ts.length
    · rw [if_pos hc, if_pos ⟨Int.le_refl _, by omega, hc.2⟩]
      rfl
    · rw [if_neg hc, if_neg (fun hh => hc ⟨by omega, hh.2.2⟩)]
  rw [hpa] at hr ⊢
  have hc : 0 < ts.length ∧ endN ts + 1 = ts.length := Decidable.byContradiction fun hc => by
    rw [if_neg hc, if_pos (by decide)] at hr
    exact absurd hr (show ¬ (1 : Int) = 0 by decide)
  rw [if_pos hc] at hr ⊢
  rcases hP with ⟨x', g1, g2⟩ | ⟨a, g1⟩
  · rw [g1] at hr ⊢
    dsimp only at hr ⊢
    rw [if_neg (by decide), Int.toNat_natCast, Nat.zero_add, ← hul, hke, if_neg (by decide)]
    exact g2
  · rw [g1] at hr
    dsimp only at hr
    rw [if_pos (by decide)] at hr
    exact absurd hr (show ¬ (21 : Int) = 0 by decide)
end Go.Proofs.YtdlcmgbidoabmaaDoor.Con
