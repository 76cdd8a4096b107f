/-
  Own work: texts merged: Tree, Size, Same6, SSame, SSmall.
-/
import Derived.Test.YtmanockofcopjaaGreatDoorTree0
import Derived.Test.YtmanockofcopjaaGreatDoorSynM
namespace Go.Proofs.YtmanockofcopjaaGreatDoor.Con
open Go Go.RowKit Go.Kt Go.Kt.V Go.Proofs.YtmanockofcopjaaGreatDoor.Vc
set_option linter.unusedSimpArgs false
set_option linter.unusedVariables false
set_option maxHeartbeats 4000000

theorem same_c (t : Bool) : ∀ (d : Nat) {e : Nat} {w : World} {F G : Nat → Prop} {x y : Ex} {cs ds : List Value}, rEx d w F x cs → rEx e w G y ds →
    Calls Tryz.prog 14 #[.agg cs.toArray, .agg ds.toArray, .bool t] w fun r w' => r = .returned (.bool (sameM t d x y)) ∧ Only [] w w'
  | 0, _, _, _, _, _, _, _, _, h, _ => h.elim
  | d + 1, 0, _, _, _, _, _, _, _, _, h => h.elim
  | d + 1, e + 1, w, F, G, x, y, cs, ds, ⟨sl, h1, h2⟩, ⟨sl', h3, h4⟩ => by
    subst h1 h3
    refine ret (pavaneref05_Same_wp x.k x.n (T x.s) x.op sl x.a y.k y.n (T y.s) y.op sl' y.a t (fun v w' => v = .bool (sameM t (d + 1) x y) ∧ Only [] w w') w ?_)
    unfold pavaneref05_Same_vc
    intro k0 k1 w0 hk0 hk0' hk1 hk1' hO0
    have n1 := h2.len
    have n2 := h4.len
    have c1 := h2.cap
    have b1 := h2.big
    have hcond : ((((((x.k != y.k) || (x.n != y.n)) || (!((T x.s).toList == (T y.s).toList))) || (x.op != y.op)) || (t && (x.a != y.a))) || ((sl.n : Int) != (sl'.n : Int))) = diffM t x y := by
      rw [T_eq, n1, n2]
      rfl
    rw [hcond]
    refine ⟨fun hc => ⟨by rw [sameM, if_pos hc], hO0⟩, fun hc => ?_⟩
    have hlen : x.subs.length = y.subs.length := by
      unfold diffM at hc
      rw [Bool.or_eq_false_iff] at hc
      have := hc.2
      simp only [bne_eq_false_iff_eq] at this
      omega
    rw [sameM, if_neg (by rw [hc]; decide)]
    refine ⟨fun nv i w' => ∃ n : Nat, n ≤ x.subs.length ∧ i = (n : Int) ∧ nv = x.subs.length - n ∧ all2 (sameM t d) x.subs y.subs = all2 (sameM t d) (x.subs.drop n) (y.subs.drop n) ∧ Only [] w w' ∧ w0.heap.size ≤ w'.heap.size, x.subs.length, ⟨0, Nat.zero_le _, rfl, rfl, rfl, hO0, Nat.le_refl _⟩, ?_⟩
    rintro nv _ w1 ⟨n, hn, rfl, rfl, hall, hO1, z1⟩
    refine ⟨fun hlt => ?_, fun hge => ?_⟩
    · have hlt : (n : Int) < (sl.n : Int) := of_decide_eq_true hlt
      obtain ⟨p, x1, cs1, g1, g2, g3, g4, g5, g6⟩ := (SliceF.only (rEx_ok d) (by decide) h2 hO1 (by simp)).get (Int.natCast_nonneg n) hlt
      obtain ⟨p', y1, ds1, m1, m2, m3, m4, m5, m6⟩ := (SliceF.only (rEx_ok e) (by decide) h4 hO1 (by simp)).get (i := (n : Int)) (Int.natCast_nonneg n) (by omega)
      rw [Int.toNat_natCast] at g2 m2
      refine ⟨p, g1, fun w2 hO2 => ?_⟩
      have hOO := hO1.tr0 hO2
      have g6' := rEx_only g6 hO2
      have m6' := rEx_only m6 hO2
      have tc : ∃ (k n : Int) (s : List UInt8) (o : Int) (l : Sl) (a : Int), cs1 = exv k n s o l a := by
        cases d with
        | zero => exact g6.elim
        | succ d => obtain ⟨l, hcs, _⟩ := g6; exact ⟨_, _, _, _, l, _, hcs⟩
      have td : ∃ (k n : Int) (s : List UInt8) (o : Int) (l : Sl) (a : Int), ds1 = exv k n s o l a := by
        cases e with
        | zero => exact m6.elim
        | succ e => obtain ⟨l, hcs, _⟩ := m6; exact ⟨_, _, _, _, l, _, hcs⟩
      obtain ⟨a1, a2, a3, a4, a5, a6, rfl⟩ := tc
      obtain ⟨b1, b2, b3, b4, b5, b6, rfl⟩ := td
      have g5' := g5.keep (hO2.block _ g5.lt (by simp))
      have m5' := m5.keep (hO2.block _ m5.lt (by simp))
      refine ⟨_, _, _, _, _, _, g5', p', m1, _, _, _, _, _, _, m5', (same_c t d g6' m6').mono ?_⟩
      rintro _ w3 ⟨rfl, hO3⟩
      have z2 := hO2.size
      have z3 := hO3.size
      have hst := all2_drop (f := sameM t d) g2 m2
      refine ⟨_, rfl, hO3.same (by
        simp
        omega), fun hb => ⟨?_, hOO.tr0 hO3⟩, fun hb => ⟨x.subs.length - (n + 1), by omega, n + 1, by omega, by rw [wr' (by omega) (by omega)]; rfl, rfl, ?_, hOO.tr0 hO3, by omega⟩⟩
      · rw [hall, hst]
        have hb : sameM t d x1 y1 = false := by simpa using hb
        rw [hb, Bool.false_and]
      · have hb : sameM t d x1 y1 = true := by simpa using hb
        rw [hall, hst, hb, Bool.true_and]
    · have hge : ¬ (n : Int) < (sl.n : Int) := of_decide_eq_false hge
      have : n = x.subs.length := by omega
      subst this
      rw [hall, List.drop_of_length_le (Nat.le_refl _)]
      exact ⟨rfl, hO1⟩
end Go.Proofs.YtmanockofcopjaaGreatDoor.Con

namespace Go.Proofs.YtmanockofcopjaaGreatDoor.Con
open Go Go.RowKit Go.Kt Go.Kt.V Go.Proofs.YtmanockofcopjaaGreatDoor.Vc
set_option linter.unusedSimpArgs false
set_option linter.unusedVariables false
set_option maxHeartbeats 4000000

theorem rEx_cells {d : Nat} {w : World} {F : Nat → Prop} {x : Ex} {cs : List Value} (h : rEx d w F x cs) : ∃ sl : Sl, cs = exv x.k x.n x.s x.op sl x.a := by
  cases d with
  | zero => exact h.elim
  | succ d => obtain ⟨l, hcs, _⟩ := h; exact ⟨l, hcs⟩
/-- all texts in a tree are of a size -/
def lenOk : Nat → Ex → Prop
  | 0, _ => True
  | d + 1, x => x.s.length < 4611686018427387903 ∧ ∀ y, y ∈ x.subs → lenOk d y
def cntL (f : Ex → Nat) : List Ex → Nat
  | [] => 0
  | x :: xs => f x + cntL f xs
def cntM : Nat → Ex → Nat
  | 0, _ => 0
  | d + 1, x => 1 + cntL (cntM d) x.subs
/-- numbers are numbers of the machine -/
def numOk : Nat → Ex → Prop
  | 0, _ => True
  | d + 1, x => InI x.n ∧ ∀ y, y ∈ x.subs → numOk d y
/-! ## copies -/
theorem cnt_len {d : Nat} : ∀ {xs : List Ex}, xs.length ≤ cntL (cntM (d + 1)) xs
  | [] => Nat.le_refl _
  | x :: xs => by
    rw [cntL, List.length_cons]
    have := cnt_len (d := d) (xs := xs)
    rw [cntM]
    omega
theorem cnt_at {d : Nat} : ∀ {xs : List Ex} {x : Ex}, x ∈ xs → cntM d x ≤ cntL (cntM d) xs
  | [], _, h => by simp at h
  | y :: xs, x, h => by
    rw [cntL]
    rcases List.mem_cons.1 h with rfl | h
    · omega
    · have := cnt_at (d := d) h; omega
theorem diff_self (t : Bool) (x : Ex) : diffM t x x = false := by simp [diffM]
theorem same_self (t : Bool) : ∀ (d : Nat) (x : Ex), sameM t d x x = true
  | 0, _ => rfl
  | d + 1, x => by
    rw [sameM, if_neg (by rw [diff_self]; decide)]
    have : ∀ l : List Ex, all2 (sameM t d) l l = true := fun l => by
      induction l with
      | nil => rfl
      | cons y l ih => rw [all2, same_self t d y, ih]; rfl
    exact this _
end Go.Proofs.YtmanockofcopjaaGreatDoor.Con

namespace Go.Proofs.YtmanockofcopjaaGreatDoor.Con
open Go Go.RowKit Go.Kt Go.Kt.V Go.Proofs.YtmanockofcopjaaGreatDoor.Vc
set_option linter.unusedSimpArgs false
set_option linter.unusedVariables false
set_option maxHeartbeats 4000000

theorem same6_c {w : World} {F G : Nat → Prop} {s t : Sl} {l m : List (List UInt8)} (h : SliceF rTx 1 w F s l) (k : SliceF rTx 1 w G t m) :
    Calls Tryz.prog 15 #[s.v, t.v] w fun e w' => e = .returned (.bool (decide (l = m))) ∧ Only [] w w' := by
  refine ret (pavaneref06_Same_wp s t (fun v w' => v = .bool (decide (l = m)) ∧ Only [] w w') w ?_)
  unfold pavaneref06_Same_vc
  have h1 := h.len
  have h2 := h.cap
  have h3 := h.big
  have k1 := k.len
  refine ⟨fun hc => ?_, fun hc => ?_⟩
  · have hc : ¬ (s.n : Int) = (t.n : Int) := by simpa using hc
    rw [decide_eq_false (fun e => hc (by rw [h1, k1, e]))]
    exact ⟨rfl, Only.refl _ _⟩
  · have hc : (s.n : Int) = (t.n : Int) := by simpa using hc
    have hlm : l.length = m.length := by omega
    refine ⟨fun nv i w' => ∃ n : Nat, n ≤ l.length ∧ i = (n : Int) ∧ nv = l.length - n ∧ l.take n = m.take n ∧ Only [] w w', l.length, ⟨0, Nat.zero_le _, rfl, rfl, by simp, Only.refl _ _⟩, ?_⟩
    rintro nv _ w0 ⟨n, hn, rfl, rfl, he, hO⟩
    refine ⟨fun hlt => ?_, fun hge => ?_⟩
    · have hlt : (n : Int) < (s.n : Int) := of_decide_eq_true hlt
      obtain ⟨p, x, cs, a1, a2, a3, a4, a5, a6⟩ := (SliceF.only rTx_ok (by decide) h hO (by simp)).get (Int.natCast_nonneg n) hlt
      obtain ⟨q, y, ds, b1, b2, b3, b4, b5, b6⟩ := (SliceF.only rTx_ok (by decide) k hO (by simp)).get (i := (n : Int)) (Int.natCast_nonneg n) (by omega)
      rw [Int.toNat_natCast] at a2 b2
      unfold rTx at a6 b6
      subst a6 b6
      refine ⟨p, a1, _, a5, q, b1, _, b5, ?_⟩
      rw [T_eq]
      refine ⟨fun hne w1 hO1 => ?_, fun heq w2 hO2 => ⟨l.length - (n + 1), by omega, n + 1, by omega, by rw [wr' (by omega) (by omega)]; rfl, rfl, ?_, hO.tr0 hO2⟩⟩
      · have hne : x ≠ y := by simpa using hne
        rw [decide_eq_false (fun e => hne (by rw [e, b2] at a2; exact (Option.some.inj a2).symm))]
        exact ⟨rfl, hO.tr0 hO1⟩
      · have heq : x = y := by simpa using heq
        rw [List.take_add_one, List.take_add_one, he, a2, b2, heq]
    · have hge : ¬ (n : Int) < (s.n : Int) := of_decide_eq_false hge
      rw [List.take_of_length_le (by omega), List.take_of_length_le (by omega)] at he
      rw [decide_eq_true he]
      exact ⟨rfl, hO⟩
end Go.Proofs.YtmanockofcopjaaGreatDoor.Con

namespace Go.Proofs.YtmanockofcopjaaGreatDoor.Con
open Go Go.RowKit Go.Kt Go.Kt.V Go.Proofs.YtmanockofcopjaaGreatDoor.Vc
set_option linter.unusedSimpArgs false
set_option linter.unusedVariables false
set_option maxHeartbeats 4000000

/-! ## alike: with the places, if t -/
def Row2 {α : Type} (R : α → α → Prop) (xs ys : List α) : Prop := xs.length = ys.length ∧ ∀ (i : Nat) (x y : α), xs[i]? = some x → ys[i]? = some y → R x y
theorem Row2.refl {α : Type} {R : α → α → Prop} {xs : List α} (h : ∀ x, x ∈ xs → R x x) : Row2 R xs xs := ⟨rfl, fun i x y hx hy => by
  rw [hx] at hy
  injection hy with hy
  subst hy
  exact h x (List.mem_of_getElem? hx)⟩
def ExE (t : Bool) (x y : Ex) : Prop := ∀ d, sameM t d x y = true
structure AcE (t : Bool) (x y : Ac) : Prop where
  k : x.k = y.k
  n : x.n = y.n
  e : ExE t x.x y.x
  a : t = true → x.a = y.a
structure MvE (t : Bool) (x y : Mv) : Prop where
  k : x.k = y.k
  ev : x.ev = y.ev
  wt : x.wt = y.wt
  gd : x.gd = y.gd
  g : ExE t x.g y.g
  acts : Row2 (AcE t) x.acts y.acts
  tg : x.tg = y.tg
  a : t = true → x.a = y.a
structure NbE (t : Bool) (x y : Nb) : Prop where
  k : x.k = y.k
  nm : x.nm = y.nm
  ini : x.ini = y.ini
  dft : x.dft = y.dft
  en : Row2 (AcE t) x.en y.en
  lv : Row2 (AcE t) x.lv y.lv
  mv : Row2 (MvE t) x.mv y.mv
  a : t = true → x.a = y.a
def NdE (t : Bool) : Nat → Nd → Nd → Prop
  | 0, _, _ => True
  | d + 1, x, y => NbE t x.b y.b ∧ Row2 (NdE t d) x.kids y.kids
structure VrE (t : Bool) (x y : Vr) : Prop where
  n : x.n = y.n
  v : x.v = y.v
  a : t = true → x.a = y.a
structure ChE (t : Bool) (d : Nat) (x y : Ch) : Prop where
  vars : Row2 (VrE t) x.vars y.vars
  root : NdE t d x.root y.root
theorem ExE.refl (t : Bool) (x : Ex) : ExE t x x := fun d => same_self t d x
theorem AcE.refl (t : Bool) (x : Ac) : AcE t x x := ⟨rfl, rfl, ExE.refl t _, fun _ => rfl⟩
theorem MvE.refl (t : Bool) (x : Mv) : MvE t x x := ⟨rfl, rfl, rfl, rfl, ExE.refl t _, Row2.refl fun y _ => AcE.refl t y, rfl, fun _ => rfl⟩
theorem NbE.refl (t : Bool) (x : Nb) : NbE t x x := ⟨rfl, rfl, rfl, rfl, Row2.refl fun y _ => AcE.refl t y, Row2.refl fun y _ => AcE.refl t y, Row2.refl fun y _ => MvE.refl t y, fun _ => rfl⟩
theorem NdE.refl (t : Bool) : ∀ (d : Nat) (x : Nd), NdE t d x x
  | 0, _ => trivial
  | d + 1, x => ⟨NbE.refl t _, Row2.refl fun y _ => NdE.refl t d y⟩
theorem ChE.refl (t : Bool) (d : Nat) (x : Ch) : ChE t d x x := ⟨Row2.refl fun y _ => ⟨rfl, rfl, fun _ => rfl⟩, NdE.refl t d _⟩

section
variable {w w' : World} {F G : Nat → Prop} {t : Bool}
theorem rE_ex {x : Ex} {cs : List Value} (h : rE false w F x cs) : ∃ d, rEx d w F x cs := by
  obtain ⟨d, h⟩ := h
  exact ⟨d, rXg_ex h⟩
theorem sameE_c {x y : Ex} {cs ds : List Value} (hx : rE false w F x cs) (hy : rE false w G y ds) (hE : ExE t x y) : Calls Tryz.prog 14 #[.agg cs.toArray, .agg ds.toArray, .bool t] w fun r w' => r = .returned (.bool true) ∧ Only [] w w' := by
  obtain ⟨d, hx⟩ := rE_ex hx
  obtain ⟨e, hy⟩ := rE_ex hy
  refine (same_c t d hx hy).mono ?_
  rintro _ w1 ⟨rfl, hO⟩
  rw [hE d]
  exact ⟨rfl, hO⟩
theorem ac_sub {k : Int} {n : List UInt8} {xc : List Value} {a : Int} {ad : Addr} (h : Cells w ad (acv k n xc a)) : Cells w (ad.add 2) xc := h.sub 2 fun j v hj => by
  have hl := (List.getElem?_eq_some_iff.1 hj).1
  rw [Nat.add_comm]
  show (acv k n xc a)[j + 2]? = _
  unfold acv
  rw [List.getElem?_cons_succ, List.getElem?_cons_succ, List.getElem?_append_left hl]
  exact hj
theorem ac_last {k : Int} {n : List UInt8} {k' n' : Int} {s : List UInt8} {op : Int} {sl : Sl} {a' a : Int} {ad : Addr} (h : Cells w ad (acv k n (exv k' n' s op sl a') a)) : Cells w (ad.add 8) [.int .i64 a] := h.at1 8 _ rfl
theorem sameActs_c {a b : Sl} {xs ys : List Ac} (ha : SliceF (rAc false) 9 w F a xs) (hb : SliceF (rAc false) 9 w G b ys) (hE : Row2 (AcE t) xs ys) : Calls Tryz.prog 78 #[a.v, b.v, .bool t] w fun r w' => r = .returned (.bool true) ∧ Only [] w w' := by
  refine ret (pavaneref07_SameActs_wp a b t (fun v w' => v = .bool true ∧ Only [] w w') w ?_)
  unfold pavaneref07_SameActs_vc
  have l1 := ha.len
  have l2 := hb.len
  have l3 := hE.1
  have c1 := ha.cap
  have c2 := ha.big
  refine ⟨fun hc => ?_, fun hc => ?_⟩
  · have : ¬ (a.n : Int) = (b.n : Int) := by simpa using hc
    omega
  refine ⟨fun nv i w' => ∃ n : Nat, i = (n : Int) ∧ n ≤ xs.length ∧ nv = xs.length - n ∧ Only [] w w', xs.length, ⟨0, rfl, Nat.zero_le _, rfl, Only.refl _ _⟩, ?_⟩
  rintro nv _ w0 ⟨n, rfl, hn, rfl, hO0⟩
  refine ⟨fun hlt => ?_, fun hge => ⟨rfl, hO0⟩⟩
  have hlt : n < a.n := by have := of_decide_eq_true hlt; omega
  obtain ⟨p, x, cs, g1, g2, g3, g4, _, g6⟩ := ha.get (i := (n : Int)) (by omega) (by omega)
  obtain ⟨q, y, ds, k1, k2, k3, k4, _, k6⟩ := hb.get (i := (n : Int)) (by omega) (by omega)
  rw [Int.toNat_natCast] at g2 k2
  have hxy := hE.2 n x y g2 k2
  refine ⟨p, g1, fun w1 hO1 => ?_⟩
  have hO01 := hO0.tr0 hO1
  obtain ⟨p', x', cs', q1, q2, _, _, g5, g6⟩ := (SliceF.only (rAc_ok false) (by decide) ha hO01 (by simp)).get (i := (n : Int)) (by omega) (by omega)
  obtain ⟨q', y', ds', q3, q4, _, _, k5, k6⟩ := (SliceF.only (rAc_ok false) (by decide) hb hO01 (by simp)).get (i := (n : Int)) (by omega) (by omega)
  rw [Int.toNat_natCast] at q2 q4
  rw [g2] at q2
  rw [k2] at q4
  injection q2 with q2
  injection q4 with q4
  subst q2 q4
  obtain rfl := g1.uniq q1
  obtain rfl := k1.uniq q3
  obtain ⟨xc, rfl, hx⟩ := g6
  obtain ⟨yc, rfl, hy⟩ := k6
  have hx' := hx
  have hy' := hy
  obtain ⟨sx, rfl⟩ := rE_cells hx
  obtain ⟨sy, rfl⟩ := rE_cells hy
  refine ⟨_, _, _, _, sx, _, ac_sub g5, q, k1, _, _, _, _, sy, _, ac_sub k5, (sameE_c hx' hy' hxy.e).mono ?_⟩
  rintro _ w2 ⟨rfl, hO2⟩
  have kp : ∀ {ad : Addr} {vs : List Value} {v : Value} {vt : List Value}, vs = v :: vt → Cells w1 ad vs → Cells w2 ad vs := fun hvs h => by
    subst hvs
    exact h.keep (hO2.block _ h.lt (by simp))
  have g5' := kp rfl g5
  have k5' := kp rfl k5
  have e : (((((!true) || (x.k != y.k)) || (!((T x.n).toList == (T y.n).toList))) || (t && (x.a != y.a)))) = false := by
    rw [T_eq, hxy.k, hxy.n]
    cases ht : t with
    | false => simp
    | true => rw [hxy.a ht]; simp
  refine ⟨true, rfl, p, fun _ => g1, x.k, fun _ => g5'.at1 0 _ rfl, q, fun _ => k1, y.k, fun _ => k5'.at1 0 _ rfl, p, fun _ => g1, _, fun _ => g5'.at1 1 _ rfl, q, fun _ => k1, _, fun _ => k5'.at1 1 _ rfl, p, fun _ _ => g1, _, fun _ _ => ac_last g5', q, fun _ _ => k1, _, fun _ _ => ac_last k5', fun hh => ?_, fun _ w4 hO4 => ⟨xs.length - (n + 1), by omega, n + 1, by rw [wr' (by omega) (by omega)]; rfl, by omega, rfl, (hO01.tr0 hO2).tr0 hO4⟩⟩
  rw [e] at hh
  cases hh
theorem sameMove_c {x y : Mv} {cs ds : List Value} (hx : rMv false w F x cs) (hy : rMv false w G y ds) (hE : MvE t x y) : Calls Tryz.prog 79 #[.agg cs.toArray, .agg ds.toArray, .bool t] w fun r w' => r = .returned (.bool true) ∧ Only [] w w' := by
  obtain ⟨gc, asl, tg, rfl, h1, h2, h3⟩ := hx
  obtain ⟨gc', asl', tg', rfl, k1, k2, k3⟩ := hy
  have h1' := h1
  have k1' := k1
  obtain ⟨sx, rfl⟩ := rE_cells h1
  obtain ⟨sy, rfl⟩ := rE_cells k1
  refine ret (pavaneref07_SameMove_wp x.k (T x.ev) x.wt x.gd x.g.k x.g.n (T x.g.s) x.g.op sx x.g.a asl tg x.a y.k (T y.ev) y.wt y.gd y.g.k y.g.n (T y.g.s) y.g.op sy y.g.a asl' tg' y.a t (fun v w' => v = .bool true ∧ Only [] w w') w ?_)
  unfold pavaneref07_SameMove_vc
  intro k0 k1 w0 hk0 hk0' hk1 hk1' hO0
  refine (sameE_c ((rE_ok false).only h1' hO0 (by simp)) ((rE_ok false).only k1' hO0 (by simp)) hE.g).mono ?_
  rintro _ w1 ⟨rfl, hO1⟩
  have z0 := hO0.size
  have z1 := hO1.size
  have hO01 := hO0.tr0 hO1
  refine ⟨_, rfl, hO1.same (by simp; omega), (sameActs_c (SliceF.only (rAc_ok false) (by decide) h2.1 hO01 (by simp)) (SliceF.only (rAc_ok false) (by decide) k2.1 hO01 (by simp)) hE.acts).mono ?_⟩
  rintro _ w2 ⟨rfl, hO2⟩
  have z2 := hO2.size
  have hO02 := hO01.tr0 hO2
  refine ⟨_, rfl, hO2.same (by simp; omega), (same6_c (SliceF.only rTx_ok (by decide) h3.1 hO02 (by simp)) (SliceF.only rTx_ok (by decide) k3.1 hO02 (by simp))).mono ?_⟩
  rintro _ w3 ⟨rfl, hO3⟩
  refine ⟨_, rfl, hO3.same (by simp; omega), ?_, hO02.tr0 hO3⟩
  rw [T_eq, decide_eq_true hE.tg, hE.k, hE.ev, hE.wt, hE.gd]
  cases ht : t with
  | false => simp
  | true => rw [hE.a ht]; simp
theorem sameNode_c : ∀ (d : Nat) {w : World} {F G : Nat → Prop} {x y : Nd} {cs ds : List Value}, rNd false d w F x cs → rNd false d w G y ds → NdE t d x y → Calls Tryz.prog 41 #[.agg cs.toArray, .agg ds.toArray, .bool t] w fun r w' => r = .returned (.bool true) ∧ Only [] w w'
  | 0, _, _, _, _, _, _, _, h, _, _ => h.elim
  | d + 1, w, F, G, x, y, cs, ds, ⟨en, lv, mv, kids, hcs, h1, h2⟩, ⟨en', lv', mv', kids', hds, k1, k2⟩, hE => by
    subst hcs hds
    obtain ⟨hE, hK⟩ := hE
    refine ret (pavaneref07_SameNode_wp x.b.k (T x.b.nm) (T x.b.ini) (T x.b.dft) en lv mv kids x.b.a y.b.k (T y.b.nm) (T y.b.ini) (T y.b.dft) en' lv' mv' kids' y.b.a t (fun v w' => v = .bool true ∧ Only [] w w') w ?_)
    unfold pavaneref07_SameNode_vc
    intro k0 k1' w0 hk0 hk0' hk1 hk1' hO0
    have z0 := hO0.size
    have m1 := h1.2.2.1.len
    have m2 := k1.2.2.1.len
    have m3 := hE.mv.1
    have m4 := h1.2.2.1.cap
    have m5 := h1.2.2.1.big
    have n1 := h2.1.len
    have n2 := k2.1.len
    have n3 := hK.1
    have n4 := h2.1.cap
    have n5 := h2.1.big
    have e : ((((((((x.b.k != y.b.k) || (!((T x.b.nm).toList == (T y.b.nm).toList))) || (!((T x.b.ini).toList == (T y.b.ini).toList))) || (!((T x.b.dft).toList == (T y.b.dft).toList))) || (t && (x.b.a != y.b.a))) || ((mv.n : Int) != (mv'.n : Int))) || ((kids.n : Int) != (kids'.n : Int)))) = false := by
      rw [T_eq, T_eq, T_eq, hE.k, hE.nm, hE.ini, hE.dft, show mv.n = mv'.n by omega, show kids.n = kids'.n by omega]
      cases ht : t with
      | false => simp
      | true => rw [hE.a ht]; simp
    refine ⟨fun hh => (by rw [e] at hh; cases hh), fun _ => (sameActs_c (SliceF.only (rAc_ok false) (by decide) h1.1.1 hO0 (by simp)) (SliceF.only (rAc_ok false) (by decide) k1.1.1 hO0 (by simp)) hE.en).mono ?_⟩
    rintro _ w1 ⟨rfl, hO1⟩
    have z1 := hO1.size
    have hO01 := hO0.tr0 hO1
    refine ⟨_, rfl, hO1.same (by simp; omega), (sameActs_c (SliceF.only (rAc_ok false) (by decide) h1.2.1.1 hO01 (by simp)) (SliceF.only (rAc_ok false) (by decide) k1.2.1.1 hO01 (by simp)) hE.lv).mono ?_⟩
    rintro _ w2 ⟨rfl, hO2⟩
    have z2 := hO2.size
    have hO02 := hO01.tr0 hO2
    refine ⟨_, rfl, hO2.same (by simp; omega), fun hh => (by cases hh), fun _ => ?_⟩
    refine ⟨fun nv i w' => ∃ n : Nat, i = (n : Int) ∧ n ≤ mv.n ∧ nv = mv.n - n ∧ Only [] w w' ∧ w2.heap.size ≤ w'.heap.size, mv.n, ⟨0, rfl, Nat.zero_le _, rfl, hO02, Nat.le_refl _⟩, ?_⟩
    rintro nv _ w3 ⟨n, rfl, hn, rfl, hO03, z3⟩
    refine ⟨fun hlt => ?_, fun hge => ?_⟩
    · have hlt : n < mv.n := by have := of_decide_eq_true hlt; omega
      obtain ⟨p, xm, ms, g1, g2, _⟩ := h1.2.2.1.get (i := (n : Int)) (by omega) (by omega)
      obtain ⟨q, ym, ns, q1, q2, _⟩ := k1.2.2.1.get (i := (n : Int)) (by omega) (by omega)
      rw [Int.toNat_natCast] at g2 q2
      refine ⟨p, g1, fun w4 hO4 => ?_⟩
      have hO04 := hO03.tr0 hO4
      have z4 := hO4.size
      obtain ⟨p', x', cs', a1, a2, _, _, a5, a6⟩ := (SliceF.only (rMv_ok false) (by decide) h1.2.2.1 hO04 (by simp)).get (i := (n : Int)) (by omega) (by omega)
      obtain ⟨q', y', ds', b1, b2, _, _, b5, b6⟩ := (SliceF.only (rMv_ok false) (by decide) k1.2.2.1 hO04 (by simp)).get (i := (n : Int)) (by omega) (by omega)
      rw [Int.toNat_natCast, g2] at a2
      rw [Int.toNat_natCast, q2] at b2
      injection a2 with a2
      injection b2 with b2
      subst a2 b2
      obtain rfl := g1.uniq a1
      obtain rfl := q1.uniq b1
      have a6' := a6
      have b6' := b6
      obtain ⟨gc, asl, tg, rfl, c1, _, _⟩ := a6
      obtain ⟨gc', asl', tg', rfl, c2, _, _⟩ := b6
      obtain ⟨sx, rfl⟩ := rE_cells c1
      obtain ⟨sy, rfl⟩ := rE_cells c2
      refine ⟨_, _, _, _, _, _, _, _, sx, _, asl, tg, _, a5, q, q1, _, _, _, _, _, _, _, _, sy, _, asl', tg', _, b5, (sameMove_c a6' b6' (hE.mv.2 n _ _ g2 q2)).mono ?_⟩
      rintro _ w5 ⟨rfl, hO5⟩
      exact ⟨true, rfl, hO5.same (by simp; omega), fun hh => (by cases hh), fun _ => ⟨mv.n - (n + 1), by omega, n + 1, by rw [wr' (by omega) (by omega)]; rfl, by omega, rfl, hO04.tr0 hO5, Nat.le_trans (by omega) hO5.size⟩⟩
    · refine ⟨fun nv i w' => ∃ n : Nat, i = (n : Int) ∧ n ≤ kids.n ∧ nv = kids.n - n ∧ Only [] w w' ∧ w2.heap.size ≤ w'.heap.size, kids.n, ⟨0, rfl, Nat.zero_le _, rfl, hO03, z3⟩, ?_⟩
      clear hge hn z3 hO03
      rintro nv _ w6 ⟨n, rfl, hn, rfl, hO06, z6⟩
      refine ⟨fun hlt => ?_, fun _ => ⟨rfl, hO06⟩⟩
      have hlt : n < kids.n := by have := of_decide_eq_true hlt; omega
      obtain ⟨p, xm, ms, g1, g2, _⟩ := h2.1.get (i := (n : Int)) (by omega) (by omega)
      obtain ⟨q, ym, ns, q1, q2, _⟩ := k2.1.get (i := (n : Int)) (by omega) (by omega)
      rw [Int.toNat_natCast] at g2 q2
      refine ⟨p, g1, fun w7 hO7 => ?_⟩
      have hO07 := hO06.tr0 hO7
      have z7 := hO7.size
      obtain ⟨p', x', cs', a1, a2, _, _, a5, a6⟩ := (SliceF.only (rNd_ok false d) (by decide) h2.1 hO07 (by simp)).get (i := (n : Int)) (by omega) (by omega)
      obtain ⟨q', y', ds', b1, b2, _, _, b5, b6⟩ := (SliceF.only (rNd_ok false d) (by decide) k2.1 hO07 (by simp)).get (i := (n : Int)) (by omega) (by omega)
      rw [Int.toNat_natCast, g2] at a2
      rw [Int.toNat_natCast, q2] at b2
      injection a2 with a2
      injection b2 with b2
      subst a2 b2
      obtain rfl := g1.uniq a1
      obtain rfl := q1.uniq b1
      have hE' := hK.2 n _ _ g2 q2
      cases d with
      | zero => exact a6.elim
      | succ d =>
        have a6' := a6
        have b6' := b6
        obtain ⟨xe, xl, xm', xk, rfl, _⟩ := a6
        obtain ⟨ye, yl, ym', yk, rfl, _⟩ := b6
        refine ⟨_, _, _, _, xe, xl, xm', xk, _, a5, q, q1, _, _, _, _, ye, yl, ym', yk, _, b5, (sameNode_c (d + 1) a6' b6' hE').mono ?_⟩
        rintro _ w8 ⟨rfl, hO8⟩
        exact ⟨true, rfl, hO8.same (by simp; omega), fun hh => (by cases hh), fun _ => ⟨kids.n - (n + 1), by omega, n + 1, by rw [wr' (by omega) (by omega)]; rfl, by omega, rfl, hO07.tr0 hO8, Nat.le_trans (by omega) hO8.size⟩⟩
theorem sameCh_c {d : Nat} {x y : Ch} {vs vs' : Sl} {cs ds : List Value} (hx : ChR false d w F x vs cs) (hy : ChR false d w G y vs' ds) (hE : ChE t d x y) : Calls Tryz.prog 19 #[.agg (vs.v :: cs).toArray, .agg (vs'.v :: ds).toArray, .bool t] w fun r w' => r = .returned (.bool true) ∧ Only [] w w' := by
  have hr := hx.root
  have hr' := hy.root
  cases d with
  | zero => exact hr.elim
  | succ d =>
    obtain ⟨en, lv, mv, kids, rfl, _⟩ := hx.root
    obtain ⟨en', lv', mv', kids', rfl, _⟩ := hy.root
    refine ret (pavaneref07_Same_wp vs x.root.b.k (T x.root.b.nm) (T x.root.b.ini) (T x.root.b.dft) en lv mv kids x.root.b.a vs' y.root.b.k (T y.root.b.nm) (T y.root.b.ini) (T y.root.b.dft) en' lv' mv' kids' y.root.b.a t (fun v w' => v = .bool true ∧ Only [] w w') w ?_)
    unfold pavaneref07_Same_vc
    have m1 := hx.vars.1.len
    have m2 := hy.vars.1.len
    have m3 := hE.vars.1
    have m4 := hx.vars.1.cap
    have m5 := hx.vars.1.big
    refine ⟨fun hc => ?_, fun _ k2 k3 w1 hk2 hk2' hk3 hk3' hO1 => ?_⟩
    · have : ¬ (vs.n : Int) = (vs'.n : Int) := by simpa using hc
      omega
    have z1 := hO1.size
    refine ⟨fun nv i w' => ∃ n : Nat, i = (n : Int) ∧ n ≤ vs.n ∧ nv = vs.n - n ∧ Only [] w w' ∧ w1.heap.size ≤ w'.heap.size, vs.n, ⟨0, rfl, Nat.zero_le _, rfl, hO1, Nat.le_refl _⟩, ?_⟩
    rintro nv _ w2 ⟨n, rfl, hn, rfl, hO2, z2⟩
    refine ⟨fun hlt => ?_, fun _ => ?_⟩
    · have hlt : n < vs.n := by have := of_decide_eq_true hlt; omega
      obtain ⟨p, a, ms, g1, g2, _, _, g5, g6⟩ := (SliceF.only rVr_ok (by decide) hx.vars.1 hO2 (by simp)).get (i := (n : Int)) (by omega) (by omega)
      obtain ⟨q, b, ns, q1, q2, _, _, q5, q6⟩ := (SliceF.only rVr_ok (by decide) hy.vars.1 hO2 (by simp)).get (i := (n : Int)) (by omega) (by omega)
      rw [Int.toNat_natCast] at g2 q2
      unfold rVr at g6 q6
      subst g6 q6
      have hv := hE.vars.2 n _ _ g2 q2
      have e : ((((!((T a.n).toList == (T b.n).toList)) || (a.v != b.v)) || (t && (a.a != b.a)))) = false := by
        rw [T_eq, hv.n, hv.v]
        cases ht : t with
        | false => simp
        | true => rw [hv.a ht]; simp
      refine ⟨p, g1, _, g5.at1 0 _ rfl, q, q1, _, q5.at1 0 _ rfl, p, fun _ => g1, _, fun _ => g5.at1 1 _ rfl, q, fun _ => q1, _, fun _ => q5.at1 1 _ rfl, p, fun _ _ => g1, _, fun _ _ => g5.at1 2 _ rfl, q, fun _ _ => q1, _, fun _ _ => q5.at1 2 _ rfl, fun hh => (by rw [e] at hh; cases hh), fun _ w4 hO4 => ⟨vs.n - (n + 1), by omega, n + 1, by rw [wr' (by omega) (by omega)]; rfl, by omega, rfl, hO2.tr0 hO4, Nat.le_trans z2 hO4.size⟩⟩
    · refine (sameNode_c (d + 1) ((rNd_ok false _).only hr hO2 (by simp)) ((rNd_ok false _).only hr' hO2 (by simp)) hE.root).mono ?_
      rintro _ w5 ⟨rfl, hO5⟩
      exact ⟨true, rfl, hO5.same (by simp; omega), rfl, hO2.tr0 hO5⟩
end
end Go.Proofs.YtmanockofcopjaaGreatDoor.Con

namespace Go.Proofs.YtmanockofcopjaaGreatDoor.Con
open Go Go.RowKit Go.Kt Go.Kt.V Go.Proofs.YtmanockofcopjaaGreatDoor.Vc
set_option linter.unusedSimpArgs false
set_option linter.unusedVariables false
set_option maxHeartbeats 4000000

theorem NbR.off' {w : World} {F : Nat → Prop} {x : Nb} {en lv mv : Sl} (h : NbR true w F x en lv mv) : NbR false w F x en lv mv := h.off
theorem ChR.off {d : Nat} {w : World} {F : Nat → Prop} {c : Ch} {vs : Sl} {cs : List Value} (h : ChR true d w F c vs cs) : ChR false d w F c vs cs := ⟨h.vars.off fun _ _ _ h => h, rNd_off h.root⟩
theorem ChR.keep {t : Bool} {d : Nat} {w w' : World} {F : Nat → Prop} {c : Ch} {vs : Sl} {cs : List Value} (h : ChR t d w F c vs cs) (hk : ∀ k, F k → k < w.heap.size → w'.heap[k]? = w.heap[k]?) : ChR t d w' F c vs cs := ⟨h.vars.keep rVr_ok (by decide) hk, (rNd_ok t d).keep h.root hk⟩
theorem ChR.here {t : Bool} {d : Nat} {w : World} {B : Nat} {c : Ch} {vs : Sl} {cs : List Value} (h : ChR t d w (Fr B) c vs cs) : ChR t d w (fun k => B ≤ k ∧ k < w.heap.size) c vs cs := ⟨h.vars.inHeap rVr_ok (by decide), (rNd_ok t d).inHeap h.root⟩
theorem ChR.only {t : Bool} {d : Nat} {w w' : World} {F : Nat → Prop} {c : Ch} {vs : Sl} {cs : List Value} (h : ChR t d w F c vs cs) (hO : Only [] w w') : ChR t d w' F c vs cs := h.keep fun k _ hlt => hO.block k hlt (by simp)
def smallT : List UInt8 := [99, 104, 97, 114, 116, 32, 99, 32, 123, 32, 118, 97, 114, 32, 110, 32, 61, 32, 45, 50, 59, 32, 105, 110, 105, 116, 105, 97, 108, 32, 97, 59, 32, 115, 116, 97, 116, 101, 32, 97, 32, 123, 32, 111, 110, 32, 103, 111, 32, 91, 110, 32, 60, 32, 48, 93, 32, 123, 32, 115, 101, 116, 32, 110, 32, 61, 32, 110, 32, 43, 32, 49, 59, 32, 125, 32, 45, 62, 32, 98, 59, 32, 125, 32, 115, 116, 97, 116, 101, 32, 98, 32, 123, 32, 125, 32, 125]
def okS (p : Ch × Int × Int) : Bool := p.2.1 == 0 && (match p.1.vars with
  | [v] => v.v == -2
  | _ => false) && decide (p.1.root.b.ini = [97]) && (match p.1.root.kids with
  | [x, _] => (match x.b.mv with
    | [m] => m.gd
    | _ => false)
  | _ => false)
theorem small_ok : okS (parseC smallT) = true := by kernel_rfl
theorem synsmall_c (w : World) (hE : Er w) : Calls Tryz.prog 16 #[] w fun e w' => e = .returned (.bool true) ∧ Only [] w w' := by
  refine ret (pavanelaw07_small_wp (fun v w' => v = (.bool true) ∧ Only [] w w') w ?_)
  unfold pavanelaw07_small_vc
  refine (sparse_c smallT hE).mono ?_
  rintro _ w0 ⟨vs, cs, rfl, hC, hO0⟩
  have hok := small_ok
  generalize parseC smallT = P at *
  obtain ⟨⟨vars, root⟩, fc, fa⟩ := P
  obtain ⟨rb, rk⟩ := root
  unfold okS at hok
  dsimp only [Nd.b, Nd.kids] at hok hC
  simp only [Bool.and_eq_true, beq_iff_eq, decide_eq_true_eq] at hok
  obtain ⟨⟨⟨hfc, hv⟩, hini⟩, hk⟩ := hok
  have z0 := hO0.size
  match vars, hv with
  | [v], hv =>
    match rk, hk with
    | [x, y], hk =>
      obtain ⟨xb, xk⟩ := x
      dsimp only [Nd.b] at hk
      obtain ⟨xk0, xnm, xini, xdft, xen, xlv, xmv, xa⟩ := xb
      dsimp only at hk
      match xmv, hk with
      | [m], hk =>
        have hr := hC.root
        obtain ⟨en, lv, mv, kids, rfl, _, hkids⟩ := hr
        have hv : v.v = -2 := by simpa using hv
        refine ⟨vs, _, _, _, _, en, lv, mv, kids, _, _, _, rfl, fun k0 k1 w1 hk0 hk0' hk1 hk1' hO1 => ?_⟩
        have hC1 := hC.only hO1
        have hl1 : vs.n = 1 := hC.vars.1.len
        have hl2 : kids.n = 2 := hkids.1.len
        obtain ⟨p, v', vc, g1, g2, _, _, g5, g6⟩ := hC1.vars.1.get (i := 0) (by decide) (by omega)
        simp only [Int.toNat_zero, List.getElem?_cons_zero, Option.some.injEq] at g2
        subst g2
        unfold rVr at g6
        subst g6
        have hkids1 := hkids.1.keep (rNd_ok true 14) (by decide) (w' := w1) fun k _ hlt => hO1.block k hlt (by simp)
        obtain ⟨q, x', xc, q1, q2, _, _, q5, q6⟩ := hkids1.get (i := 0) (by decide) (by omega)
        simp only [Int.toNat_zero, Nd.kids, List.getElem?_cons_zero, Option.some.injEq] at q2
        subst q2
        obtain ⟨en', lv', mv', kids', rfl, hnb, _⟩ := q6
        have hl3 : mv'.n = 1 := hnb.2.2.1.len
        obtain ⟨r, m', mc, r1, r2, _, _, r5, r6⟩ := hnb.2.2.1.get (i := 0) (by decide) (by omega)
        simp only [Nd.b, Int.toNat_zero, List.getElem?_cons_zero, Option.some.injEq] at r2
        subst r2
        obtain ⟨gc, asl, tg, rfl, _⟩ := r6
        refine ⟨p, fun _ => g1, _, fun _ => g5.at1 1 _ rfl, q, fun _ => q1, mv', fun _ => q5.at1 6 _ rfl, q, fun _ => q1, mv', fun _ => q5.at1 6 _ rfl, r, fun _ => r1, m.gd, fun _ => r5.at1 3 _ rfl, ?_, hO0.tr0 hO1⟩
        have e1 : ((vs.n : Int) == 1) = true := by rw [hl1]; rfl
        have e2 : ((kids.n : Int) == 2) = true := by rw [hl2]; rfl
        have e3 : ((mv'.n : Int) == 1) = true := by rw [hl3]; rfl
        have e4 : ((T rb.ini).toList == (T [97]).toList) = true := by rw [T_eq]; exact hini
        have e5 : (fc == 0) = true := by rw [hfc]; rfl
        have e6 : (v.v == -2) = true := by rw [hv]; rfl
        dsimp only [Nd.b]
        show Value.bool (((((((fc == 0) && ((vs.n : Int) == 1)) && (v.v == -2)) && ((T rb.ini).toList == (T [97]).toList)) && ((kids.n : Int) == 2)) && ((mv'.n : Int) == 1)) && m.gd) = _
        have hk : m.gd = true := hk
        rw [e1, e2, e3, e4, e5, e6, hk]
        rfl
end Go.Proofs.YtmanockofcopjaaGreatDoor.Con
