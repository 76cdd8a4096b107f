
/-
  Own work: texts merged: Tree, Size, Same6, SSame, SSpo, SSpo2, SSpo3, SReads.
-/
import Derived.Test.YtmanockofcopjaaGreatDoorTree0
import Derived.Test.YtmanockofcopjaaGreatDoorSynR
namespace Go.Proofs.YtmanockofcopjaaGreatDoor.Con
open Go Go.RowKit Go.Kt Go.Kt.V Go.Proofs.YtmanockofcopjaaGreatDoor.Vc
set_option linter.unusedSimpArgs false
set_option linter.unusedVariables false
set_option maxHeartbeats 4000000

theorem same_c (t : Bool) : ∀ (d : Nat) {e : Nat} {w : World} {F G : Nat → Prop} {x y : Ex} {cs ds : List Value}, rEx d w F x cs → rEx e w G y ds →
    Calls Tryz.prog 14 #[.agg cs.toArray, .agg ds.toArray, .bool t] w fun r w' => r = .returned (.bool (sameM t d x y)) ∧ Only [] w w'
  | 0, _, _, _, _, _, _, _, _, h, _ => h.elim
  | d + 1, 0, _, _, _, _, _, _, _, _, h => h.elim
  | d + 1, e + 1, w, F, G, x, y, cs, ds, ⟨sl, h1, h2⟩, ⟨sl', h3, h4⟩ => by
    subst h1 h3
    refine ret (pavaneref05_Same_wp x.k x.n (T x.s) x.op sl x.a y.k y.n (T y.s) y.op sl' y.a t (fun v w' => v = .bool (sameM t (d + 1) x y) ∧ Only [] w w') w ?_)
    unfold pavaneref05_Same_vc
    intro k0 k1 w0 hk0 hk0' hk1 hk1' hO0
    have n1 := h2.len
    have n2 := h4.len
    have c1 := h2.cap
    have b1 := h2.big
    have hcond : ((((((x.k != y.k) || (x.n != y.n)) || (!((T x.s).toList == (T y.s).toList))) || (x.op != y.op)) || (t && (x.a != y.a))) || ((sl.n : Int) != (sl'.n : Int))) = diffM t x y := by
      rw [T_eq, n1, n2]
      rfl
    rw [hcond]
    refine ⟨fun hc => ⟨by rw [sameM, if_pos hc], hO0⟩, fun hc => ?_⟩
    have hlen : x.subs.length = y.subs.length := by
      unfold diffM at hc
      rw [Bool.or_eq_false_iff] at hc
      have := hc.2
      simp only [bne_eq_false_iff_eq] at this
      omega
    rw [sameM, if_neg (by rw [hc]; decide)]
    refine ⟨fun nv i w' => ∃ n : Nat, n ≤ x.subs.length ∧ i = (n : Int) ∧ nv = x.subs.length - n ∧ all2 (sameM t d) x.subs y.subs = all2 (sameM t d) (x.subs.drop n) (y.subs.drop n) ∧ Only [] w w' ∧ w0.heap.size ≤ w'.heap.size, x.subs.length, ⟨0, Nat.zero_le _, rfl, rfl, rfl, hO0, Nat.le_refl _⟩, ?_⟩
    rintro nv _ w1 ⟨n, hn, rfl, rfl, hall, hO1, z1⟩
    refine ⟨fun hlt => ?_, fun hge => ?_⟩
    · have hlt : (n : Int) < (sl.n : Int) := of_decide_eq_true hlt
      obtain ⟨p, x1, cs1, g1, g2, g3, g4, g5, g6⟩ := (SliceF.only (rEx_ok d) (by decide) h2 hO1 (by simp)).get (Int.natCast_nonneg n) hlt
      obtain ⟨p', y1, ds1, m1, m2, m3, m4, m5, m6⟩ := (SliceF.only (rEx_ok e) (by decide) h4 hO1 (by simp)).get (i := (n : Int)) (Int.natCast_nonneg n) (by omega)
      rw [Int.toNat_natCast] at g2 m2
      refine ⟨p, g1, fun w2 hO2 => ?_⟩
      have hOO := hO1.tr0 hO2
      have g6' := rEx_only g6 hO2
      have m6' := rEx_only m6 hO2
      have tc : ∃ (k n : Int) (s : List UInt8) (o : Int) (l : Sl) (a : Int), cs1 = exv k n s o l a := by
        cases d with
        | zero => exact g6.elim
        | succ d => obtain ⟨l, hcs, _⟩ := g6; exact ⟨_, _, _, _, l, _, hcs⟩
      have td : ∃ (k n : Int) (s : List UInt8) (o : Int) (l : Sl) (a : Int), ds1 = exv k n s o l a := by
        cases e with
        | zero => exact m6.elim
        | succ e => obtain ⟨l, hcs, _⟩ := m6; exact ⟨_, _, _, _, l, _, hcs⟩
      obtain ⟨a1, a2, a3, a4, a5, a6, rfl⟩ := tc
      obtain ⟨b1, b2, b3, b4, b5, b6, rfl⟩ := td
      have g5' := g5.keep (hO2.block _ g5.lt (by simp))
      have m5' := m5.keep (hO2.block _ m5.lt (by simp))
      refine ⟨_, _, _, _, _, _, g5', p', m1, _, _, _, _, _, _, m5', (same_c t d g6' m6').mono ?_⟩
      rintro _ w3 ⟨rfl, hO3⟩
      have z2 := hO2.size
      have z3 := hO3.size
      have hst := all2_drop (f := sameM t d) g2 m2
      refine ⟨_, rfl, hO3.same (by
        simp
        omega), fun hb => ⟨?_, hOO.tr0 hO3⟩, fun hb => ⟨x.subs.length - (n + 1), by omega, n + 1, by omega, by rw [wr' (by omega) (by omega)]; rfl, rfl, ?_, hOO.tr0 hO3, by omega⟩⟩
      · rw [hall, hst]
        have hb : sameM t d x1 y1 = false := by simpa using hb
        rw [hb, Bool.false_and]
      · have hb : sameM t d x1 y1 = true := by simpa using hb
        rw [hall, hst, hb, Bool.true_and]
    · have hge : ¬ (n : Int) < (sl.n : Int) := of_decide_eq_false hge
      have : n = x.subs.length := by omega
      subst this
      rw [hall, List.drop_of_length_le (Nat.le_refl _)]
      exact ⟨rfl, hO1⟩
end Go.Proofs.YtmanockofcopjaaGreatDoor.Con

namespace Go.Proofs.YtmanockofcopjaaGreatDoor.Con
open Go Go.RowKit Go.Kt Go.Kt.V Go.Proofs.YtmanockofcopjaaGreatDoor.Vc
set_option linter.unusedSimpArgs false
set_option linter.unusedVariables false
set_option maxHeartbeats 4000000

/-! ## copies -/
theorem diff_self (t : Bool) (x : Ex) : diffM t x x = false := by simp [diffM]
theorem same_self (t : Bool) : ∀ (d : Nat) (x : Ex), sameM t d x x = true
  | 0, _ => rfl
  | d + 1, x => by
    rw [sameM, if_neg (by rw [diff_self]; decide)]
    have : ∀ l : List Ex, all2 (sameM t d) l l = true := fun l => by
      induction l with
      | nil => rfl
      | cons y l ih => rw [all2, same_self t d y, ih]; rfl
    exact this _
end Go.Proofs.YtmanockofcopjaaGreatDoor.Con

namespace Go.Proofs.YtmanockofcopjaaGreatDoor.Con
open Go Go.RowKit Go.Kt Go.Kt.V Go.Proofs.YtmanockofcopjaaGreatDoor.Vc
set_option linter.unusedSimpArgs false
set_option linter.unusedVariables false
set_option maxHeartbeats 4000000

theorem same6_c {w : World} {F G : Nat → Prop} {s t : Sl} {l m : List (List UInt8)} (h : SliceF rTx 1 w F s l) (k : SliceF rTx 1 w G t m) :
    Calls Tryz.prog 15 #[s.v, t.v] w fun e w' => e = .returned (.bool (decide (l = m))) ∧ Only [] w w' := by
  refine ret (pavaneref06_Same_wp s t (fun v w' => v = .bool (decide (l = m)) ∧ Only [] w w') w ?_)
  unfold pavaneref06_Same_vc
  have h1 := h.len
  have h2 := h.cap
  have h3 := h.big
  have k1 := k.len
  refine ⟨fun hc => ?_, fun hc => ?_⟩
  · have hc : ¬ (s.n : Int) = (t.n : Int) := by simpa using hc
    rw [decide_eq_false (fun e => hc (by rw [h1, k1, e]))]
    exact ⟨rfl, Only.refl _ _⟩
  · have hc : (s.n : Int) = (t.n : Int) := by simpa using hc
    have hlm : l.length = m.length := by omega
    refine ⟨fun nv i w' => ∃ n : Nat, n ≤ l.length ∧ i = (n : Int) ∧ nv = l.length - n ∧ l.take n = m.take n ∧ Only [] w w', l.length, ⟨0, Nat.zero_le _, rfl, rfl, by simp, Only.refl _ _⟩, ?_⟩
    rintro nv _ w0 ⟨n, hn, rfl, rfl, he, hO⟩
    refine ⟨fun hlt => ?_, fun hge => ?_⟩
    · have hlt : (n : Int) < (s.n : Int) := of_decide_eq_true hlt
      obtain ⟨p, x, cs, a1, a2, a3, a4, a5, a6⟩ := (SliceF.only rTx_ok (by decide) h hO (by simp)).get (Int.natCast_nonneg n) hlt
      obtain ⟨q, y, ds, b1, b2, b3, b4, b5, b6⟩ := (SliceF.only rTx_ok (by decide) k hO (by simp)).get (i := (n : Int)) (Int.natCast_nonneg n) (by omega)
      rw [Int.toNat_natCast] at a2 b2
      unfold rTx at a6 b6
      subst a6 b6
      refine ⟨p, a1, _, a5, q, b1, _, b5, ?_⟩
      rw [T_eq]
      refine ⟨fun hne w1 hO1 => ?_, fun heq w2 hO2 => ⟨l.length - (n + 1), by omega, n + 1, by omega, by rw [wr' (by omega) (by omega)]; rfl, rfl, ?_, hO.tr0 hO2⟩⟩
      · have hne : x ≠ y := by simpa using hne
        rw [decide_eq_false (fun e => hne (by rw [e, b2] at a2; exact (Option.some.inj a2).symm))]
        exact ⟨rfl, hO.tr0 hO1⟩
      · have heq : x = y := by simpa using heq
        rw [List.take_add_one, List.take_add_one, he, a2, b2, heq]
    · have hge : ¬ (n : Int) < (s.n : Int) := of_decide_eq_false hge
      rw [List.take_of_length_le (by omega), List.take_of_length_le (by omega)] at he
      rw [decide_eq_true he]
      exact ⟨rfl, hO⟩
end Go.Proofs.YtmanockofcopjaaGreatDoor.Con

namespace Go.Proofs.YtmanockofcopjaaGreatDoor.Con
open Go Go.RowKit Go.Kt Go.Kt.V Go.Proofs.YtmanockofcopjaaGreatDoor.Vc
set_option linter.unusedSimpArgs false
set_option linter.unusedVariables false
set_option maxHeartbeats 4000000

/-! ## alike: with the places, if t -/
def Row2 {α : Type} (R : α → α → Prop) (xs ys : List α) : Prop := xs.length = ys.length ∧ ∀ (i : Nat) (x y : α), xs[i]? = some x → ys[i]? = some y → R x y
theorem Row2.refl {α : Type} {R : α → α → Prop} {xs : List α} (h : ∀ x, x ∈ xs → R x x) : Row2 R xs xs := ⟨rfl, fun i x y hx hy => by
  rw [hx] at hy
  injection hy with hy
  subst hy
  exact h x (List.mem_of_getElem? hx)⟩
def ExE (t : Bool) (x y : Ex) : Prop := ∀ d, sameM t d x y = true
structure AcE (t : Bool) (x y : Ac) : Prop where
  k : x.k = y.k
  n : x.n = y.n
  e : ExE t x.x y.x
  a : t = true → x.a = y.a
structure MvE (t : Bool) (x y : Mv) : Prop where
  k : x.k = y.k
  ev : x.ev = y.ev
  wt : x.wt = y.wt
  gd : x.gd = y.gd
  g : ExE t x.g y.g
  acts : Row2 (AcE t) x.acts y.acts
  tg : x.tg = y.tg
  a : t = true → x.a = y.a
structure NbE (t : Bool) (x y : Nb) : Prop where
  k : x.k = y.k
  nm : x.nm = y.nm
  ini : x.ini = y.ini
  dft : x.dft = y.dft
  en : Row2 (AcE t) x.en y.en
  lv : Row2 (AcE t) x.lv y.lv
  mv : Row2 (MvE t) x.mv y.mv
  a : t = true → x.a = y.a
def NdE (t : Bool) : Nat → Nd → Nd → Prop
  | 0, _, _ => True
  | d + 1, x, y => NbE t x.b y.b ∧ Row2 (NdE t d) x.kids y.kids
structure VrE (t : Bool) (x y : Vr) : Prop where
  n : x.n = y.n
  v : x.v = y.v
  a : t = true → x.a = y.a
structure ChE (t : Bool) (d : Nat) (x y : Ch) : Prop where
  vars : Row2 (VrE t) x.vars y.vars
  root : NdE t d x.root y.root
theorem ExE.refl (t : Bool) (x : Ex) : ExE t x x := fun d => same_self t d x
theorem AcE.refl (t : Bool) (x : Ac) : AcE t x x := ⟨rfl, rfl, ExE.refl t _, fun _ => rfl⟩
theorem MvE.refl (t : Bool) (x : Mv) : MvE t x x := ⟨rfl, rfl, rfl, rfl, ExE.refl t _, Row2.refl fun y _ => AcE.refl t y, rfl, fun _ => rfl⟩
theorem NbE.refl (t : Bool) (x : Nb) : NbE t x x := ⟨rfl, rfl, rfl, rfl, Row2.refl fun y _ => AcE.refl t y, Row2.refl fun y _ => AcE.refl t y, Row2.refl fun y _ => MvE.refl t y, fun _ => rfl⟩
theorem NdE.refl (t : Bool) : ∀ (d : Nat) (x : Nd), NdE t d x x
  | 0, _ => trivial
  | d + 1, x => ⟨NbE.refl t _, Row2.refl fun y _ => NdE.refl t d y⟩
theorem ChE.refl (t : Bool) (d : Nat) (x : Ch) : ChE t d x x := ⟨Row2.refl fun y _ => ⟨rfl, rfl, fun _ => rfl⟩, NdE.refl t d _⟩

section
variable {w w' : World} {F G : Nat → Prop} {t : Bool}
theorem rE_ex {x : Ex} {cs : List Value} (h : rE false w F x cs) : ∃ d, rEx d w F x cs := by
  obtain ⟨d, h⟩ := h
  exact ⟨d, rXg_ex h⟩
theorem sameE_c {x y : Ex} {cs ds : List Value} (hx : rE false w F x cs) (hy : rE false w G y ds) (hE : ExE t x y) : Calls Tryz.prog 14 #[.agg cs.toArray, .agg ds.toArray, .bool t] w fun r w' => r = .returned (.bool true) ∧ Only [] w w' := by
  obtain ⟨d, hx⟩ := rE_ex hx
  obtain ⟨e, hy⟩ := rE_ex hy
  refine (same_c t d hx hy).mono ?_
  rintro _ w1 ⟨rfl, hO⟩
  rw [hE d]
  exact ⟨rfl, hO⟩
theorem ac_sub {k : Int} {n : List UInt8} {xc : List Value} {a : Int} {ad : Addr} (h : Cells w ad (acv k n xc a)) : Cells w (ad.add 2) xc := h.sub 2 fun j v hj => by
  have hl := (List.getElem?_eq_some_iff.1 hj).1
  rw [Nat.add_comm]
  show (acv k n xc a)[j + 2]? = _
  unfold acv
  rw [List.getElem?_cons_succ, List.getElem?_cons_succ, List.getElem?_append_left hl]
  exact hj
theorem ac_last {k : Int} {n : List UInt8} {k' n' : Int} {s : List UInt8} {op : Int} {sl : Sl} {a' a : Int} {ad : Addr} (h : Cells w ad (acv k n (exv k' n' s op sl a') a)) : Cells w (ad.add 8) [.int .i64 a] := h.at1 8 _ rfl
theorem sameActs_c {a b : Sl} {xs ys : List Ac} (ha : SliceF (rAc false) 9 w F a xs) (hb : SliceF (rAc false) 9 w G b ys) (hE : Row2 (AcE t) xs ys) : Calls Tryz.prog 78 #[a.v, b.v, .bool t] w fun r w' => r = .returned (.bool true) ∧ Only [] w w' := by
  refine ret (pavaneref07_SameActs_wp a b t (fun v w' => v = .bool true ∧ Only [] w w') w ?_)
  unfold pavaneref07_SameActs_vc
  have l1 := ha.len
  have l2 := hb.len
  have l3 := hE.1
  have c1 := ha.cap
  have c2 := ha.big
  refine ⟨fun hc => ?_, fun hc => ?_⟩
  · have : ¬ (a.n : Int) = (b.n : Int) := by simpa using hc
    omega
  refine ⟨fun nv i w' => ∃ n : Nat, i = (n : Int) ∧ n ≤ xs.length ∧ nv = xs.length - n ∧ Only [] w w', xs.length, ⟨0, rfl, Nat.zero_le _, rfl, Only.refl _ _⟩, ?_⟩
  rintro nv _ w0 ⟨n, rfl, hn, rfl, hO0⟩
  refine ⟨fun hlt => ?_, fun hge => ⟨rfl, hO0⟩⟩
  have hlt : n < a.n := by have := of_decide_eq_true hlt; omega
  obtain ⟨p, x, cs, g1, g2, g3, g4, _, g6⟩ := ha.get (i := (n : Int)) (by omega) (by omega)
  obtain ⟨q, y, ds, k1, k2, k3, k4, _, k6⟩ := hb.get (i := (n : Int)) (by omega) (by omega)
  rw [Int.toNat_natCast] at g2 k2
  have hxy := hE.2 n x y g2 k2
  refine ⟨p, g1, fun w1 hO1 => ?_⟩
  have hO01 := hO0.tr0 hO1
  obtain ⟨p', x', cs', q1, q2, _, _, g5, g6⟩ := (SliceF.only (rAc_ok false) (by decide) ha hO01 (by simp)).get (i := (n : Int)) (by omega) (by omega)
  obtain ⟨q', y', ds', q3, q4, _, _, k5, k6⟩ := (SliceF.only (rAc_ok false) (by decide) hb hO01 (by simp)).get (i := (n : Int)) (by omega) (by omega)
  rw [Int.toNat_natCast] at q2 q4
  rw [g2] at q2
  rw [k2] at q4
  injection q2 with q2
  injection q4 with q4
  subst q2 q4
  obtain rfl := g1.uniq q1
  obtain rfl := k1.uniq q3
  obtain ⟨xc, rfl, hx⟩ := g6
  obtain ⟨yc, rfl, hy⟩ := k6
  have hx' := hx
  have hy' := hy
  obtain ⟨sx, rfl⟩ := rE_cells hx
  obtain ⟨sy, rfl⟩ := rE_cells hy
  refine ⟨_, _, _, _, sx, _, ac_sub g5, q, k1, _, _, _, _, sy, _, ac_sub k5, (sameE_c hx' hy' hxy.e).mono ?_⟩
  rintro _ w2 ⟨rfl, hO2⟩
  have kp : ∀ {ad : Addr} {vs : List Value} {v : Value} {vt : List Value}, vs = v :: vt → Cells w1 ad vs → Cells w2 ad vs := fun hvs h => by
    subst hvs
    exact h.keep (hO2.block _ h.lt (by simp))
  have g5' := kp rfl g5
  have k5' := kp rfl k5
  have e : (((((!true) || (x.k != y.k)) || (!((T x.n).toList == (T y.n).toList))) || (t && (x.a != y.a)))) = false := by
    rw [T_eq, hxy.k, hxy.n]
    cases ht : t with
    | false => simp
    | true => rw [hxy.a ht]; simp
  refine ⟨true, rfl, p, fun _ => g1, x.k, fun _ => g5'.at1 0 _ rfl, q, fun _ => k1, y.k, fun _ => k5'.at1 0 _ rfl, p, fun _ => g1, _, fun _ => g5'.at1 1 _ rfl, q, fun _ => k1, _, fun _ => k5'.at1 1 _ rfl, p, fun _ _ => g1, _, fun _ _ => ac_last g5', q, fun _ _ => k1, _, fun _ _ => ac_last k5', fun hh => ?_, fun _ w4 hO4 => ⟨xs.length - (n + 1), by omega, n + 1, by rw [wr' (by omega) (by omega)]; rfl, by omega, rfl, (hO01.tr0 hO2).tr0 hO4⟩⟩
  rw [e] at hh
  cases hh
theorem sameMove_c {x y : Mv} {cs ds : List Value} (hx : rMv false w F x cs) (hy : rMv false w G y ds) (hE : MvE t x y) : Calls Tryz.prog 79 #[.agg cs.toArray, .agg ds.toArray, .bool t] w fun r w' => r = .returned (.bool true) ∧ Only [] w w' := by
  obtain ⟨gc, asl, tg, rfl, h1, h2, h3⟩ := hx
  obtain ⟨gc', asl', tg', rfl, k1, k2, k3⟩ := hy
  have h1' := h1
  have k1' := k1
  obtain ⟨sx, rfl⟩ := rE_cells h1
  obtain ⟨sy, rfl⟩ := rE_cells k1
  refine ret (pavaneref07_SameMove_wp x.k (T x.ev) x.wt x.gd x.g.k x.g.n (T x.g.s) x.g.op sx x.g.a asl tg x.a y.k (T y.ev) y.wt y.gd y.g.k y.g.n (T y.g.s) y.g.op sy y.g.a asl' tg' y.a t (fun v w' => v = .bool true ∧ Only [] w w') w ?_)
  unfold pavaneref07_SameMove_vc
  intro k0 k1 w0 hk0 hk0' hk1 hk1' hO0
  refine (sameE_c ((rE_ok false).only h1' hO0 (by simp)) ((rE_ok false).only k1' hO0 (by simp)) hE.g).mono ?_
  rintro _ w1 ⟨rfl, hO1⟩
  have z0 := hO0.size
  have z1 := hO1.size
  have hO01 := hO0.tr0 hO1
  refine ⟨_, rfl, hO1.same (by simp; omega), (sameActs_c (SliceF.only (rAc_ok false) (by decide) h2.1 hO01 (by simp)) (SliceF.only (rAc_ok false) (by decide) k2.1 hO01 (by simp)) hE.acts).mono ?_⟩
  rintro _ w2 ⟨rfl, hO2⟩
  have z2 := hO2.size
  have hO02 := hO01.tr0 hO2
  refine ⟨_, rfl, hO2.same (by simp; omega), (same6_c (SliceF.only rTx_ok (by decide) h3.1 hO02 (by simp)) (SliceF.only rTx_ok (by decide) k3.1 hO02 (by simp))).mono ?_⟩
  rintro _ w3 ⟨rfl, hO3⟩
  refine ⟨_, rfl, hO3.same (by simp; omega), ?_, hO02.tr0 hO3⟩
  rw [T_eq, decide_eq_true hE.tg, hE.k, hE.ev, hE.wt, hE.gd]
  cases ht : t with
  | false => simp
  | true => rw [hE.a ht]; simp
theorem sameNode_c : ∀ (d : Nat) {w : World} {F G : Nat → Prop} {x y : Nd} {cs ds : List Value}, rNd false d w F x cs → rNd false d w G y ds → NdE t d x y → Calls Tryz.prog 41 #[.agg cs.toArray, .agg ds.toArray, .bool t] w fun r w' => r = .returned (.bool true) ∧ Only [] w w'
  | 0, _, _, _, _, _, _, _, h, _, _ => h.elim
  | d + 1, w, F, G, x, y, cs, ds, ⟨en, lv, mv, kids, hcs, h1, h2⟩, ⟨en', lv', mv', kids', hds, k1, k2⟩, hE => by
    subst hcs hds
    obtain ⟨hE, hK⟩ := hE
    refine ret (pavaneref07_SameNode_wp x.b.k (T x.b.nm) (T x.b.ini) (T x.b.dft) en lv mv kids x.b.a y.b.k (T y.b.nm) (T y.b.ini) (T y.b.dft) en' lv' mv' kids' y.b.a t (fun v w' => v = .bool true ∧ Only [] w w') w ?_)
    unfold pavaneref07_SameNode_vc
    intro k0 k1' w0 hk0 hk0' hk1 hk1' hO0
    have z0 := hO0.size
    have m1 := h1.2.2.1.len
    have m2 := k1.2.2.1.len
    have m3 := hE.mv.1
    have m4 := h1.2.2.1.cap
    have m5 := h1.2.2.1.big
    have n1 := h2.1.len
    have n2 := k2.1.len
    have n3 := hK.1
    have n4 := h2.1.cap
    have n5 := h2.1.big
    have e : ((((((((x.b.k != y.b.k) || (!((T x.b.nm).toList == (T y.b.nm).toList))) || (!((T x.b.ini).toList == (T y.b.ini).toList))) || (!((T x.b.dft).toList == (T y.b.dft).toList))) || (t && (x.b.a != y.b.a))) || ((mv.n : Int) != (mv'.n : Int))) || ((kids.n : Int) != (kids'.n : Int)))) = false := by
      rw [T_eq, T_eq, T_eq, hE.k, hE.nm, hE.ini, hE.dft, show mv.n = mv'.n by omega, show kids.n = kids'.n by omega]
      cases ht : t with
      | false => simp
      | true => rw [hE.a ht]; simp
    refine ⟨fun hh => (by rw [e] at hh; cases hh), fun _ => (sameActs_c (SliceF.only (rAc_ok false) (by decide) h1.1.1 hO0 (by simp)) (SliceF.only (rAc_ok false) (by decide) k1.1.1 hO0 (by simp)) hE.en).mono ?_⟩
    rintro _ w1 ⟨rfl, hO1⟩
    have z1 := hO1.size
    have hO01 := hO0.tr0 hO1
    refine ⟨_, rfl, hO1.same (by simp; omega), (sameActs_c (SliceF.only (rAc_ok false) (by decide) h1.2.1.1 hO01 (by simp)) (SliceF.only (rAc_ok false) (by decide) k1.2.1.1 hO01 (by simp)) hE.lv).mono ?_⟩
    rintro _ w2 ⟨rfl, hO2⟩
    have z2 := hO2.size
    have hO02 := hO01.tr0 hO2
    refine ⟨_, rfl, hO2.same (by simp; omega), fun hh => (by cases hh), fun _ => ?_⟩
    refine ⟨fun nv i w' => ∃ n : Nat, i = (n : Int) ∧ n ≤ mv.n ∧ nv = mv.n - n ∧ Only [] w w' ∧ w2.heap.size ≤ w'.heap.size, mv.n, ⟨0, rfl, Nat.zero_le _, rfl, hO02, Nat.le_refl _⟩, ?_⟩
    rintro nv _ w3 ⟨n, rfl, hn, rfl, hO03, z3⟩
    refine ⟨fun hlt => ?_, fun hge => ?_⟩
    · have hlt : n < mv.n := by have := of_decide_eq_true hlt; omega
      obtain ⟨p, xm, ms, g1, g2, _⟩ := h1.2.2.1.get (i := (n : Int)) (by omega) (by omega)
      obtain ⟨q, ym, ns, q1, q2, _⟩ := k1.2.2.1.get (i := (n : Int)) (by omega) (by omega)
      rw [Int.toNat_natCast] at g2 q2
      refine ⟨p, g1, fun w4 hO4 => ?_⟩
      have hO04 := hO03.tr0 hO4
      have z4 := hO4.size
      obtain ⟨p', x', cs', a1, a2, _, _, a5, a6⟩ := (SliceF.only (rMv_ok false) (by decide) h1.2.2.1 hO04 (by simp)).get (i := (n : Int)) (by omega) (by omega)
      obtain ⟨q', y', ds', b1, b2, _, _, b5, b6⟩ := (SliceF.only (rMv_ok false) (by decide) k1.2.2.1 hO04 (by simp)).get (i := (n : Int)) (by omega) (by omega)
      rw [Int.toNat_natCast, g2] at a2
      rw [Int.toNat_natCast, q2] at b2
      injection a2 with a2
      injection b2 with b2
      subst a2 b2
      obtain rfl := g1.uniq a1
      obtain rfl := q1.uniq b1
      have a6' := a6
      have b6' := b6
      obtain ⟨gc, asl, tg, rfl, c1, _, _⟩ := a6
      obtain ⟨gc', asl', tg', rfl, c2, _, _⟩ := b6
      obtain ⟨sx, rfl⟩ := rE_cells c1
      obtain ⟨sy, rfl⟩ := rE_cells c2
      refine ⟨_, _, _, _, _, _, _, _, sx, _, asl, tg, _, a5, q, q1, _, _, _, _, _, _, _, _, sy, _, asl', tg', _, b5, (sameMove_c a6' b6' (hE.mv.2 n _ _ g2 q2)).mono ?_⟩
      rintro _ w5 ⟨rfl, hO5⟩
      exact ⟨true, rfl, hO5.same (by simp; omega), fun hh => (by cases hh), fun _ => ⟨mv.n - (n + 1), by omega, n + 1, by rw [wr' (by omega) (by omega)]; rfl, by omega, rfl, hO04.tr0 hO5, Nat.le_trans (by omega) hO5.size⟩⟩
    · refine ⟨fun nv i w' => ∃ n : Nat, i = (n : Int) ∧ n ≤ kids.n ∧ nv = kids.n - n ∧ Only [] w w' ∧ w2.heap.size ≤ w'.heap.size, kids.n, ⟨0, rfl, Nat.zero_le _, rfl, hO03, z3⟩, ?_⟩
      clear hge hn z3 hO03
      rintro nv _ w6 ⟨n, rfl, hn, rfl, hO06, z6⟩
      refine ⟨fun hlt => ?_, fun _ => ⟨rfl, hO06⟩⟩
      have hlt : n < kids.n := by have := of_decide_eq_true hlt; omega
      obtain ⟨p, xm, ms, g1, g2, _⟩ := h2.1.get (i := (n : Int)) (by omega) (by omega)
      obtain ⟨q, ym, ns, q1, q2, _⟩ := k2.1.get (i := (n : Int)) (by omega) (by omega)
      rw [Int.toNat_natCast] at g2 q2
      refine ⟨p, g1, fun w7 hO7 => ?_⟩
      have hO07 := hO06.tr0 hO7
      have z7 := hO7.size
      obtain ⟨p', x', cs', a1, a2, _, _, a5, a6⟩ := (SliceF.only (rNd_ok false d) (by decide) h2.1 hO07 (by simp)).get (i := (n : Int)) (by omega) (by omega)
      obtain ⟨q', y', ds', b1, b2, _, _, b5, b6⟩ := (SliceF.only (rNd_ok false d) (by decide) k2.1 hO07 (by simp)).get (i := (n : Int)) (by omega) (by omega)
      rw [Int.toNat_natCast, g2] at a2
      rw [Int.toNat_natCast, q2] at b2
      injection a2 with a2
      injection b2 with b2
      subst a2 b2
      obtain rfl := g1.uniq a1
      obtain rfl := q1.uniq b1
      have hE' := hK.2 n _ _ g2 q2
      cases d with
      | zero => exact a6.elim
      | succ d =>
        have a6' := a6
        have b6' := b6
        obtain ⟨xe, xl, xm', xk, rfl, _⟩ := a6
        obtain ⟨ye, yl, ym', yk, rfl, _⟩ := b6
        refine ⟨_, _, _, _, xe, xl, xm', xk, _, a5, q, q1, _, _, _, _, ye, yl, ym', yk, _, b5, (sameNode_c (d + 1) a6' b6' hE').mono ?_⟩
        rintro _ w8 ⟨rfl, hO8⟩
        exact ⟨true, rfl, hO8.same (by simp; omega), fun hh => (by cases hh), fun _ => ⟨kids.n - (n + 1), by omega, n + 1, by rw [wr' (by omega) (by omega)]; rfl, by omega, rfl, hO07.tr0 hO8, Nat.le_trans (by omega) hO8.size⟩⟩
theorem sameCh_c {d : Nat} {x y : Ch} {vs vs' : Sl} {cs ds : List Value} (hx : ChR false d w F x vs cs) (hy : ChR false d w G y vs' ds) (hE : ChE t d x y) : Calls Tryz.prog 19 #[.agg (vs.v :: cs).toArray, .agg (vs'.v :: ds).toArray, .bool t] w fun r w' => r = .returned (.bool true) ∧ Only [] w w' := by
  have hr := hx.root
  have hr' := hy.root
  cases d with
  | zero => exact hr.elim
  | succ d =>
    obtain ⟨en, lv, mv, kids, rfl, _⟩ := hx.root
    obtain ⟨en', lv', mv', kids', rfl, _⟩ := hy.root
    refine ret (pavaneref07_Same_wp vs x.root.b.k (T x.root.b.nm) (T x.root.b.ini) (T x.root.b.dft) en lv mv kids x.root.b.a vs' y.root.b.k (T y.root.b.nm) (T y.root.b.ini) (T y.root.b.dft) en' lv' mv' kids' y.root.b.a t (fun v w' => v = .bool true ∧ Only [] w w') w ?_)
    unfold pavaneref07_Same_vc
    have m1 := hx.vars.1.len
    have m2 := hy.vars.1.len
    have m3 := hE.vars.1
    have m4 := hx.vars.1.cap
    have m5 := hx.vars.1.big
    refine ⟨fun hc => ?_, fun _ k2 k3 w1 hk2 hk2' hk3 hk3' hO1 => ?_⟩
    · have : ¬ (vs.n : Int) = (vs'.n : Int) := by simpa using hc
      omega
    have z1 := hO1.size
    refine ⟨fun nv i w' => ∃ n : Nat, i = (n : Int) ∧ n ≤ vs.n ∧ nv = vs.n - n ∧ Only [] w w' ∧ w1.heap.size ≤ w'.heap.size, vs.n, ⟨0, rfl, Nat.zero_le _, rfl, hO1, Nat.le_refl _⟩, ?_⟩
    rintro nv _ w2 ⟨n, rfl, hn, rfl, hO2, z2⟩
    refine ⟨fun hlt => ?_, fun _ => ?_⟩
    · have hlt : n < vs.n := by have := of_decide_eq_true hlt; omega
      obtain ⟨p, a, ms, g1, g2, _, _, g5, g6⟩ := (SliceF.only rVr_ok (by decide) hx.vars.1 hO2 (by simp)).get (i := (n : Int)) (by omega) (by omega)
      obtain ⟨q, b, ns, q1, q2, _, _, q5, q6⟩ := (SliceF.only rVr_ok (by decide) hy.vars.1 hO2 (by simp)).get (i := (n : Int)) (by omega) (by omega)
      rw [Int.toNat_natCast] at g2 q2
      unfold rVr at g6 q6
      subst g6 q6
      have hv := hE.vars.2 n _ _ g2 q2
      have e : ((((!((T a.n).toList == (T b.n).toList)) || (a.v != b.v)) || (t && (a.a != b.a)))) = false := by
        rw [T_eq, hv.n, hv.v]
        cases ht : t with
        | false => simp
        | true => rw [hv.a ht]; simp
      refine ⟨p, g1, _, g5.at1 0 _ rfl, q, q1, _, q5.at1 0 _ rfl, p, fun _ => g1, _, fun _ => g5.at1 1 _ rfl, q, fun _ => q1, _, fun _ => q5.at1 1 _ rfl, p, fun _ _ => g1, _, fun _ _ => g5.at1 2 _ rfl, q, fun _ _ => q1, _, fun _ _ => q5.at1 2 _ rfl, fun hh => (by rw [e] at hh; cases hh), fun _ w4 hO4 => ⟨vs.n - (n + 1), by omega, n + 1, by rw [wr' (by omega) (by omega)]; rfl, by omega, rfl, hO2.tr0 hO4, Nat.le_trans z2 hO4.size⟩⟩
    · refine (sameNode_c (d + 1) ((rNd_ok false _).only hr hO2 (by simp)) ((rNd_ok false _).only hr' hO2 (by simp)) hE.root).mono ?_
      rintro _ w5 ⟨rfl, hO5⟩
      exact ⟨true, rfl, hO5.same (by simp; omega), rfl, hO2.tr0 hO5⟩
end
end Go.Proofs.YtmanockofcopjaaGreatDoor.Con

namespace Go.Proofs.YtmanockofcopjaaGreatDoor.Con
open Go Go.RowKit Go.Kt Go.Kt.V Go.Proofs.YtmanockofcopjaaGreatDoor.Vc
set_option linter.unusedSimpArgs false
set_option linter.unusedVariables false
set_option maxHeartbeats 4000000

def chunk (cs : List Value) (size j : Nat) : List Value := (cs.drop (j * size)).take size
theorem chunk_get {cs : List Value} {size j i : Nat} (h : i < size) : (chunk cs size j)[i]? = cs[j * size + i]? := by
  unfold chunk
  rw [List.getElem?_take_of_lt h, List.getElem?_drop]
theorem splice_get {cs vs : List Value} {o : Nat} (h : o + vs.length ≤ cs.length) (i : Nat) : (splice cs o vs)[i]? = if i < o then cs[i]? else if i < o + vs.length then vs[i - o]? else cs[i]? := by
  unfold splice
  by_cases h1 : i < o
  · rw [if_pos h1, List.append_assoc, List.getElem?_append_left (by rw [List.length_take]; omega), List.getElem?_take_of_lt h1]
  · rw [if_neg h1]
    by_cases h2 : i < o + vs.length
    · rw [if_pos h2, List.getElem?_append_left (by rw [List.length_append, List.length_take]; omega), List.getElem?_append_right (by rw [List.length_take]; omega), List.length_take, Nat.min_eq_left (by omega)]
    · rw [if_neg h2, List.getElem?_append_right (by rw [List.length_append, List.length_take]; omega), List.length_append, List.length_take, Nat.min_eq_left (by omega), List.getElem?_drop]
      congr 1
      omega
theorem splice_len' {cs vs : List Value} {o : Nat} (h : o + vs.length ≤ cs.length) : (splice cs o vs).length = cs.length := by
  unfold splice
  rw [List.length_append, List.length_append, List.length_take, List.length_drop]
  omega
theorem chunk_same {cs vs : List Value} {size j : Nat} (hv : vs.length = size) (h : j * size + size ≤ cs.length) : chunk (splice cs (j * size) vs) size j = vs := by
  apply List.ext_getElem?
  intro i
  by_cases hi : i < size
  · rw [chunk_get hi, splice_get (by omega), if_neg (by omega), if_pos (by omega), Nat.add_sub_cancel_left]
  · unfold chunk
    rw [List.getElem?_take, if_neg (by omega), List.getElem?_eq_none (by omega)]
theorem chunk_other {cs vs : List Value} {size j i : Nat} (hv : vs.length = size) (h : j * size + size ≤ cs.length) (hij : i ≠ j) : chunk (splice cs (j * size) vs) size i = chunk cs size i := by
  apply List.ext_getElem?
  intro t
  by_cases ht : t < size
  · rw [chunk_get ht, chunk_get ht, splice_get (by omega)]
    rcases Nat.lt_or_gt_of_ne hij with h1 | h1
    · have := Nat.mul_le_mul_right size (show i + 1 ≤ j by omega)
      rw [Nat.add_mul] at this
      rw [if_pos (by omega)]
    · have := Nat.mul_le_mul_right size (show j + 1 ≤ i by omega)
      rw [Nat.add_mul] at this
      rw [if_neg (by omega), if_neg (by omega)]
  · unfold chunk
    rw [List.getElem?_take, List.getElem?_take, if_neg (by omega), if_neg (by omega)]

/-! ## what a spoilt place holds -/
abbrev spE : List Value := [.int .i64 (-7), .int .i64 0, .string (ByteArray.mk #[]), .int .i64 0, Sl.nil.v, .int .i64 0]
abbrev wSpoilt : ByteArray := ByteArray.mk #[115, 112, 111, 105, 108, 116]
abbrev spA : List Value := [.int .i64 0, .string wSpoilt, .int .i64 0, .int .i64 0, .string (ByteArray.mk #[]), .int .i64 0, Sl.nil.v, .int .i64 0, .int .i64 0]
abbrev spM : List Value := [.int .i64 0, .string wSpoilt, .int .i64 0, .bool false, .int .i64 0, .int .i64 0, .string (ByteArray.mk #[]), .int .i64 0, Sl.nil.v, .int .i64 0, Sl.nil.v, Sl.nil.v, .int .i64 0]
abbrev spN : List Value := [.int .i64 0, .string wSpoilt, .string (ByteArray.mk #[]), .string (ByteArray.mk #[]), Sl.nil.v, Sl.nil.v, Sl.nil.v, Sl.nil.v, .int .i64 0]
def tE : TypeId := 24
def tA : TypeId := 158
def tM : TypeId := 75
def tN : TypeId := 45
/-- the row's elements are as they were, or spoilt -/
structure Mod (e : TypeId) (cs cs' : List Value) : Prop where
  len : cs'.length = cs.length
  E : e = tE → ∀ j, chunk cs' 6 j = chunk cs 6 j ∨ chunk cs' 6 j = spE
  A : e = tA → ∀ j, chunk cs' 9 j = chunk cs 9 j ∨ chunk cs' 9 j = spA
  M : e = tM → ∀ j, chunk cs' 13 j = chunk cs 13 j ∨ chunk cs' 13 j = spM
  N : e = tN → ∀ j, chunk cs' 9 j = chunk cs 9 j ∨ chunk cs' 9 j = spN
theorem Mod.refl (e : TypeId) (cs : List Value) : Mod e cs cs := ⟨rfl, fun _ _ => .inl rfl, fun _ _ => .inl rfl, fun _ _ => .inl rfl, fun _ _ => .inl rfl⟩
theorem Mod.trans {e : TypeId} {a b c : List Value} (h : Mod e a b) (k : Mod e b c) : Mod e a c := by
  have go : ∀ {x y z s : List Value}, (y = x ∨ y = s) → (z = y ∨ z = s) → (z = x ∨ z = s) := fun h k => by
    rcases k with k | k
    · rw [k]; exact h
    · exact .inr k
  exact ⟨k.len.trans h.len, fun e j => go (h.E e j) (k.E e j), fun e j => go (h.A e j) (k.A e j), fun e j => go (h.M e j) (k.M e j), fun e j => go (h.N e j) (k.N e j)⟩
/-- rows of the types T, in the blocks F, may have been spoilt, and nothing else -/
structure Sp (T : TypeId → Prop) (F : Nat → Prop) (w w' : World) : Prop where
  o : OnlyP F w w'
  b : ∀ g e cs, F g → Blk w g e cs → ∃ cs', Blk w' g e cs' ∧ Mod e cs cs' ∧ (¬ T e → cs' = cs)
section
variable {T U : TypeId → Prop} {F : Nat → Prop} {w w' w'' : World}
theorem Sp.refl (T : TypeId → Prop) (F : Nat → Prop) (w : World) : Sp T F w w := ⟨OnlyP.refl _ _, fun g e cs _ h => ⟨cs, h, Mod.refl _ _, fun _ => rfl⟩⟩
theorem Sp.trans (h : Sp T F w w') (k : Sp T F w' w'') : Sp T F w w'' := ⟨h.o.trans k.o fun _ x => .inl x, fun g e cs hg hb => by
  obtain ⟨c1, b1, m1, n1⟩ := h.b g e cs hg hb
  obtain ⟨c2, b2, m2, n2⟩ := k.b g e c1 hg b1
  exact ⟨c2, b2, m1.trans m2, fun hT => (n2 hT).trans (n1 hT)⟩⟩
theorem Sp.up (h : Sp T F w w') (hT : ∀ e, T e → U e) : Sp U F w w' := ⟨h.o, fun g e cs hg hb => by
  obtain ⟨c1, b1, m1, n1⟩ := h.b g e cs hg hb
  exact ⟨c1, b1, m1, fun hU => n1 fun ht => hU (hT e ht)⟩⟩
theorem Sp.quiet (h : Only [] w w') : Sp T F w w' := ⟨h.p0, fun g e cs _ hb => ⟨cs, h.blk hb (by simp), Mod.refl _ _, fun _ => rfl⟩⟩
/-- one row's block turns -/
theorem Sp.one {g : Nat} {e : TypeId} {cs cs' : List Value} (hF : F g) (hT : T e) (hB : Blk w g e cs) (hO : Only [g] w w') (hB' : Blk w' g e cs') (hm : Mod e cs cs') : Sp T F w w' :=
  ⟨hO.p fun x hx => .inl (by simp only [List.mem_singleton] at hx; subst hx; exact hF), fun g2 e2 cs2 hF2 hB2 => by
    by_cases hg : g2 = g
    · subst hg
      have := hB.symm.trans hB2
      simp only [Option.some.injEq, Obj.cells.injEq, and_true] at this
      obtain ⟨h1, h2⟩ := this
      have h1 : cs = cs2 := by simpa using congrArg Array.toList h1
      subst h1 h2
      exact ⟨cs', hB', hm, fun hn => absurd hT hn⟩
    · exact ⟨cs2, hO.blk hB2 (by simpa using hg), Mod.refl _ _, fun _ => rfl⟩⟩
theorem mod_of {e : TypeId} {cs z : List Value} {size j : Nat} (hz : z.length = size) (h : j * size + size ≤ cs.length) (hE : e = tE → size = 6 ∧ z = spE) (hA : e = tA → size = 9 ∧ z = spA) (hM : e = tM → size = 13 ∧ z = spM) (hN : e = tN → size = 9 ∧ z = spN) : Mod e cs (splice cs (j * size) z) := by
  have key : ∀ i, chunk (splice cs (j * size) z) size i = chunk cs size i ∨ chunk (splice cs (j * size) z) size i = z := fun i => by
    by_cases hij : i = j
    · subst hij; exact .inr (chunk_same hz h)
    · exact .inl (chunk_other hz h hij)
  refine ⟨splice_len' (by omega), fun he i => ?_, fun he i => ?_, fun he i => ?_, fun he i => ?_⟩
  · obtain ⟨rfl, rfl⟩ := hE he; exact key i
  · obtain ⟨rfl, rfl⟩ := hA he; exact key i
  · obtain ⟨rfl, rfl⟩ := hM he; exact key i
  · obtain ⟨rfl, rfl⟩ := hN he; exact key i
end

/-! ## rows that may be spoilt -/
def LR (w : World) (F : Nat → Prop) (e : TypeId) (size : Nat) (L : List Value → Prop) (s : Sl) : Prop := s.n = 0 ∨ ∃ g cs, s.a = some ⟨g, 0, none⟩ ∧ F g ∧ Blk w g e cs ∧ s.n * size ≤ cs.length ∧ s.n ≤ 9223372036854775807 ∧ ∀ j, j < s.n → L (chunk cs size j)
def LE (F : Nat → Prop) : Nat → World → List Value → Prop
  | 0, _, _ => False
  | d + 1, w, cs => ∃ k n s op sl a, cs = [.int .i64 k, .int .i64 n, .string s, .int .i64 op, Sl.v sl, .int .i64 a] ∧ LR w F tE 6 (LE F d w) sl
def LA (F : Nat → Prop) (w : World) (cs : List Value) : Prop := ∃ d k n xk xn xs xo sl xa a, cs = [.int .i64 k, .string n, .int .i64 xk, .int .i64 xn, .string xs, .int .i64 xo, Sl.v sl, .int .i64 xa, .int .i64 a] ∧ LR w F tE 6 (LE F d w) sl
def LM (F : Nat → Prop) (w : World) (cs : List Value) : Prop := ∃ d k ev wt gd xk xn xs xo sl xa asl tg a, cs = [.int .i64 k, .string ev, .int .i64 wt, .bool gd, .int .i64 xk, .int .i64 xn, .string xs, .int .i64 xo, Sl.v sl, .int .i64 xa, Sl.v asl, Sl.v tg, .int .i64 a] ∧ LR w F tE 6 (LE F d w) sl ∧ LR w F tA 9 (LA F w) asl ∧ LR w F 9 1 (fun _ => True) tg
/-- a row of nodes, each of no more than so many -/
def LK (w : World) (F : Nat → Prop) (L : Nat → List Value → Prop) (ms : List Nat) (s : Sl) : Prop := s.n = ms.length ∧ (s.n = 0 ∨ ∃ g cs, s.a = some ⟨g, 0, none⟩ ∧ F g ∧ Blk w g tN cs ∧ s.n * 9 ≤ cs.length ∧ s.n ≤ 9223372036854775807 ∧ ∀ j m, ms[j]? = some m → L m (chunk cs 9 j))
def LN (F : Nat → Prop) : Nat → World → Nat → List Value → Prop
  | 0, _, _, _ => False
  | d + 1, w, m, cs => ∃ k nm ini dft en lv mv kids a, cs = [.int .i64 k, .string nm, .string ini, .string dft, Sl.v en, Sl.v lv, Sl.v mv, Sl.v kids, .int .i64 a] ∧ LR w F tA 9 (LA F w) en ∧ LR w F tA 9 (LA F w) lv ∧ LR w F tM 13 (LM F w) mv ∧ ∃ ms : List Nat, ms.sum + 1 ≤ m ∧ LK w F (LN F d w) ms kids
section
variable {T : TypeId → Prop} {F G : Nat → Prop} {w w' : World}
theorem LR.nil (w : World) (F : Nat → Prop) (e : TypeId) (size : Nat) (L : List Value → Prop) : LR w F e size L Sl.nil := .inl rfl
theorem LR.sp {e : TypeId} {size : Nat} {L L' : List Value → Prop} {s : Sl} (h : LR w F e size L s) (hs : Sp T F w w') (hL : ∀ cs cs' : List Value, Mod e cs cs' → ∀ j, L (chunk cs size j) → L' (chunk cs' size j)) : LR w' F e size L' s := by
  rcases h with h | ⟨g, cs, h1, h2, h3, h4, h5, h6⟩
  · exact .inl h
  · obtain ⟨cs', b1, m1, _⟩ := hs.b g e cs h2 h3
    exact .inr ⟨g, cs', h1, h2, b1, by rw [m1.len]; exact h4, h5, fun j hj => hL cs cs' m1 j (h6 j hj)⟩
theorem LE.sp (hs : Sp T F w w') : ∀ (d : Nat) {cs : List Value}, LE F d w cs → LE F d w' cs
  | 0, _, h => h.elim
  | d + 1, _, ⟨k, n, s, op, sl, a, e, h⟩ => ⟨k, n, s, op, sl, a, e, h.sp hs fun cs cs' hm j hl => by
    rcases hm.E rfl j with e | e
    · rw [e]; exact LE.sp hs d hl
    · rw [e]
      cases d with
      | zero => exact hl.elim
      | succ d => exact ⟨_, _, _, _, Sl.nil, _, rfl, LR.nil _ _ _ _ _⟩⟩
theorem LE.rowsp {d : Nat} {s : Sl} (h : LR w F tE 6 (LE F d w) s) (hs : Sp T F w w') : LR w' F tE 6 (LE F d w') s := h.sp hs fun cs cs' hm j hl => by
    rcases hm.E rfl j with e | e
    · rw [e]; exact LE.sp hs d hl
    · rw [e]
      cases d with
      | zero => exact hl.elim
      | succ d => exact ⟨_, _, _, _, Sl.nil, _, rfl, LR.nil _ _ _ _ _⟩
theorem LA.sp {cs : List Value} (h : LA F w cs) (hs : Sp T F w w') : LA F w' cs := by
  obtain ⟨d, k, n, xk, xn, xs, xo, sl, xa, a, e, h⟩ := h
  exact ⟨d, k, n, xk, xn, xs, xo, sl, xa, a, e, LE.rowsp h hs⟩
theorem LA.rowsp {s : Sl} (h : LR w F tA 9 (LA F w) s) (hs : Sp T F w w') : LR w' F tA 9 (LA F w') s := h.sp hs fun cs cs' hm j hl => by
    rcases hm.A rfl j with e | e
    · rw [e]; exact hl.sp hs
    · rw [e]; exact ⟨0, _, _, _, _, _, _, Sl.nil, _, _, rfl, LR.nil _ _ _ _ _⟩
theorem LR.txsp {e : TypeId} {size : Nat} {s : Sl} (h : LR w F e size (fun _ => True) s) (hs : Sp T F w w') : LR w' F e size (fun _ => True) s := h.sp hs fun _ _ _ _ _ => trivial
theorem LM.sp {cs : List Value} (h : LM F w cs) (hs : Sp T F w w') : LM F w' cs := by
  obtain ⟨d, k, ev, wt, gd, xk, xn, xs, xo, sl, xa, asl, tg, a, e, h1, h2, h3⟩ := h
  exact ⟨d, k, ev, wt, gd, xk, xn, xs, xo, sl, xa, asl, tg, a, e, LE.rowsp h1 hs, LA.rowsp h2 hs, h3.txsp hs⟩
theorem LM.rowsp {s : Sl} (h : LR w F tM 13 (LM F w) s) (hs : Sp T F w w') : LR w' F tM 13 (LM F w') s := h.sp hs fun cs cs' hm j hl => by
    rcases hm.M rfl j with e | e
    · rw [e]; exact hl.sp hs
    · rw [e]; exact ⟨0, _, _, _, _, _, _, _, _, Sl.nil, _, Sl.nil, Sl.nil, _, rfl, LR.nil _ _ _ _ _, LR.nil _ _ _ _ _, LR.nil _ _ _ _ _⟩
theorem LK.sp0 {d : Nat} {ms : List Nat} {s : Sl} (h : LK w F (LN F d w) ms s) (hs : Sp T F w w') (hi : ∀ {m : Nat} {cs : List Value}, LN F d w m cs → LN F d w' m cs) : LK w' F (LN F d w') ms s := by
  obtain ⟨h4, h5⟩ := h
  refine ⟨h4, ?_⟩
  rcases h5 with h5 | ⟨g, cs, q1, q2, q3, q4, q5, q6⟩
  · exact .inl h5
  · obtain ⟨cs', b1, m1, _⟩ := hs.b g tN cs q2 q3
    refine .inr ⟨g, cs', q1, q2, b1, by rw [m1.len]; exact q4, q5, fun j m' hj => ?_⟩
    have hl := q6 j m' hj
    rcases m1.N rfl j with e | e
    · rw [e]; exact hi hl
    · rw [e]
      cases d with
      | zero => exact hl.elim
      | succ d =>
        obtain ⟨_, _, _, _, _, _, _, _, _, _, _, _, _, ms', hm', _⟩ := hl
        exact ⟨_, _, _, _, Sl.nil, Sl.nil, Sl.nil, Sl.nil, _, rfl, LR.nil _ _ _ _ _, LR.nil _ _ _ _ _, LR.nil _ _ _ _ _, [], by simp; omega, rfl, .inl rfl⟩
theorem LN.sp (hs : Sp T F w w') : ∀ (d : Nat) {m : Nat} {cs : List Value}, LN F d w m cs → LN F d w' m cs
  | 0, _, _, h => h.elim
  | d + 1, m, _, ⟨k, nm, ini, dft, en, lv, mv, kids, a, e, h1, h2, h3, ms, hm, h4⟩ => ⟨k, nm, ini, dft, en, lv, mv, kids, a, e, LA.rowsp h1 hs, LA.rowsp h2 hs, LM.rowsp h3 hs, ms, hm, h4.sp0 hs fun h => LN.sp hs d h⟩
theorem LK.sp {d : Nat} {ms : List Nat} {s : Sl} (h : LK w F (LN F d w) ms s) (hs : Sp T F w w') : LK w' F (LN F d w') ms s := h.sp0 hs fun h => LN.sp hs d h
end
end Go.Proofs.YtmanockofcopjaaGreatDoor.Con

namespace Go.Proofs.YtmanockofcopjaaGreatDoor.Con
open Go Go.RowKit Go.Kt Go.Kt.V Go.Proofs.YtmanockofcopjaaGreatDoor.Vc
set_option linter.unusedSimpArgs false
set_option linter.unusedVariables false
set_option maxHeartbeats 4000000
set_option maxRecDepth 100000

/-! ## what was made may be spoilt -/
theorem chunk_of {w : World} {g : Nat} {e : TypeId} {cells cs : List Value} {size j : Nat} (hB : Blk w g e cells) (hl : cs.length = size) (hc : Cells w ⟨g, j * size, none⟩ cs) : chunk cells size j = cs := by
  apply List.ext_getElem?
  intro i
  by_cases hi : i < size
  · rw [chunk_get hi]
    have h1 : cs[i]? = some cs[i] := List.getElem?_eq_getElem (by omega)
    have := hc i _ h1
    rw [addr_lit, hB.cell] at this
    rw [this, h1]
  · unfold chunk
    rw [List.getElem?_take, if_neg (by omega), List.getElem?_eq_none (by omega)]
section
variable {w w' : World} {F : Nat → Prop}
theorem SlG.lr {α : Type} {r : Rp α} {size : Nat} {e : TypeId} {s : Sl} {xs : List α} {L : List Value → Prop} (h : SlG true r size e w F s xs) (hL : ∀ x cs, r w F x cs → L cs) : LR w F e size L s := by
  rcases h.2 rfl with h0 | ⟨g, cells, h1, h2, h3, h4⟩
  · exact .inl h0
  · refine .inr ⟨g, cells, h1, h2, h3, h4, Nat.le_trans h.1.cap h.1.big, fun j hj => ?_⟩
    have hlt : j < xs.length := by rw [← h.1.len]; exact hj
    obtain ⟨base, cs, a1, a2, a3, a4, a5⟩ := h.1.at_ j _ (List.getElem?_eq_getElem hlt)
    rw [h1] at a1
    injection a1 with a1
    subst a1
    rw [addr_lit, Nat.zero_add] at a4
    rw [chunk_of h3 a3 a4]
    exact hL _ _ a5
theorem rXg_le' : ∀ {d : Nat} {x : Ex} {cs : List Value}, rXg true d w F x cs → LE F d w cs
  | 0, _, _, h => h.elim
  | d + 1, x, cs, ⟨sl, h1, h2⟩ => ⟨x.k, x.n, T x.s, x.op, sl, x.a, h1, h2.lr fun y ys h => rXg_le' h⟩
theorem rE_row {x : Ex} {cs : List Value} (h : rE true w F x cs) : ∃ d k n s op sl a, cs = [.int .i64 k, .int .i64 n, .string s, .int .i64 op, Sl.v sl, .int .i64 a] ∧ LR w F tE 6 (LE F d w) sl := by
  obtain ⟨d, h⟩ := h
  cases d with
  | zero => exact h.elim
  | succ d =>
    obtain ⟨sl, h1, h2⟩ := h
    exact ⟨d, _, _, _, _, sl, _, h1, h2.lr fun y ys h => rXg_le' h⟩
theorem rAc_la {x : Ac} {cs : List Value} (h : rAc true w F x cs) : LA F w cs := by
  obtain ⟨xc, rfl, h⟩ := h
  obtain ⟨d, k, n, s, op, sl, a, rfl, h2⟩ := rE_row h
  exact ⟨d, _, _, _, _, _, _, sl, _, _, rfl, h2⟩
theorem rMv_lm {x : Mv} {cs : List Value} (h : rMv true w F x cs) : LM F w cs := by
  obtain ⟨gc, asl, tg, rfl, h1, h2, h3⟩ := h
  obtain ⟨d, k, n, s, op, sl, a, rfl, h⟩ := rE_row h1
  exact ⟨d, _, _, _, _, _, _, _, _, sl, _, asl, tg, _, rfl, h, h2.lr fun y ys h => rAc_la h, h3.lr fun _ _ _ => trivial⟩
def cntD : Nat → Nd → Nat
  | 0, _ => 0
  | d + 1, x => 1 + (x.kids.map (cntD d)).sum
theorem rNd_ln : ∀ {d : Nat} {x : Nd} {cs : List Value}, rNd true d w F x cs → LN F d w (cntD d x) cs
  | 0, _, _, h => h.elim
  | d + 1, x, cs, ⟨en, lv, mv, kids, h1, h2, h3⟩ => ⟨_, _, _, _, en, lv, mv, kids, _, h1, h2.1.lr fun y ys h => rAc_la h, h2.2.1.lr fun y ys h => rAc_la h, h2.2.2.lr fun y ys h => rMv_lm h, x.kids.map (cntD d), by rw [cntD]; omega, by rw [List.length_map]; exact h3.1.len, by
    rcases h3.2 rfl with h0 | ⟨g, cells, q1, q2, q3, q4⟩
    · exact .inl h0
    · refine .inr ⟨g, cells, q1, q2, q3, q4, Nat.le_trans h3.1.cap h3.1.big, fun j m hj => ?_⟩
      rw [List.getElem?_map] at hj
      cases hx : x.kids[j]? with
      | none => rw [hx] at hj; cases hj
      | some y =>
        rw [hx] at hj
        injection hj with hj
        subst hj
        obtain ⟨base, cs, a1, a2, a3, a4, a5⟩ := h3.1.at_ j _ hx
        rw [q1] at a1
        injection a1 with a1
        subst a1
        rw [addr_lit, Nat.zero_add] at a4
        rw [chunk_of q3 a3 a4]
        exact rNd_ln a5⟩

/-! ## the functions -/
theorem slAt_of {s : Sl} {g j size : Nat} (ha : s.a = some ⟨g, 0, none⟩) (hj : j < s.n) : SlAt s (j : Int) size ⟨g, j * size, none⟩ := ⟨_, ha, by omega, by omega, by rw [addr_lit, Int.toNat_natCast, Nat.zero_add]⟩
theorem row_fit {n j size len : Nat} (hj : j < n) (h : n * size ≤ len) : j * size + size ≤ len := by
  have := Nat.mul_le_mul_right size (show j + 1 ≤ n by omega)
  rw [Nat.add_mul] at this
  omega
theorem cell_at {g : Nat} {e : TypeId} {cells cs : List Value} {size j : Nat} (hB : Blk w g e cells) (hc : chunk cells size j = cs) (i : Nat) {v : Value} (hi : i < size) (hv : cs[i]? = some v) : Cells w ⟨g, j * size + i, none⟩ [v] := hB.at0 _ (by rw [← chunk_get hi, hc]; exact hv)
theorem spoilE_c : ∀ (d : Nat) {w : World} {s : Sl}, LR w F tE 6 (LE F d w) s → Calls Tryz.prog 81 #[s.v] w fun e w' => (∃ i : Int, e = .returned (.int .i64 i)) ∧ Sp (fun e => e = tE) F w w'
  | d, w, s, h => by
    refine (pavanelaw05_Spoil_wp s (fun v w' => (∃ i : Int, v = .int .i64 i) ∧ Sp (fun e => e = tE) F w w') w ?_).mono (by
      rintro e w' ⟨v, rfl, ⟨i, rfl⟩, h⟩; exact ⟨⟨i, rfl⟩, h⟩)
    unfold pavanelaw05_Spoil_vc
    refine ⟨fun nv i0 i1 w' => ∃ j : Nat, i1 = (j : Int) ∧ j ≤ s.n ∧ nv = s.n - j ∧ Sp (fun e => e = tE) F w w', s.n, ⟨0, rfl, Nat.zero_le _, rfl, Sp.refl _ _ _⟩, ?_⟩
    rintro nv i0 _ w0 ⟨j, rfl, hj, rfl, hS⟩
    refine ⟨fun hc => ?_, fun _ => ⟨⟨_, rfl⟩, hS⟩⟩
    have hj : j < s.n := by have := of_decide_eq_true hc; omega
    rcases LE.rowsp h hS with h0 | ⟨g, cs, q1, q2, q3, q4, q5, q6⟩
    · omega
    cases d with
    | zero => exact (q6 j hj).elim
    | succ d =>
      obtain ⟨k, n, st, op, sl, a, e, hsub⟩ := q6 j hj
      refine ⟨_, slAt_of q1 hj, sl, cell_at q3 e 4 (by decide) rfl, (spoilE_c d hsub).mono ?_⟩
      rintro _ w1 ⟨⟨i, rfl⟩, hS1⟩
      obtain ⟨cs1, b1, m1, _⟩ := hS1.b g tE cs q2 q3
      have hfit := row_fit hj q4
      refine ⟨i, rfl, _, slAt_of q1 hj, g, j * 6, cs1, tE, rfl, b1, by rw [m1.len]; exact hfit, fun w2 hO2 hB2 => ⟨s.n - (j + 1), by omega, j + 1, by rw [wr' (by omega) (by omega)]; rfl, by omega, rfl, (hS.trans hS1).trans (Sp.one q2 rfl b1 hO2 hB2 (mod_of rfl (by rw [m1.len]; exact hfit) (fun _ => ⟨rfl, rfl⟩) (fun h => absurd h (by decide)) (fun h => absurd h (by decide)) (fun h => absurd h (by decide))))⟩⟩
theorem spoilA_c {s : Sl} (h : LR w F tA 9 (LA F w) s) : Calls Tryz.prog 80 #[s.v] w fun e w' => e = .returned (.tuple #[]) ∧ Sp (fun e => e = tE ∨ e = tA) F w w' := by
  refine ret (pavanelaw07_spoilActs_wp s (fun v w' => v = .tuple #[] ∧ Sp (fun e => e = tE ∨ e = tA) F w w') w ?_)
  unfold pavanelaw07_spoilActs_vc
  refine ⟨fun nv i1 w' => ∃ j : Nat, i1 = (j : Int) ∧ j ≤ s.n ∧ nv = s.n - j ∧ Sp (fun e => e = tE ∨ e = tA) F w w', s.n, ⟨0, rfl, Nat.zero_le _, rfl, Sp.refl _ _ _⟩, ?_⟩
  rintro nv _ w0 ⟨j, rfl, hj, rfl, hS⟩
  refine ⟨fun hc => ?_, fun _ => ⟨rfl, hS⟩⟩
  have hj : j < s.n := by have := of_decide_eq_true hc; omega
  rcases LA.rowsp h hS with h0 | ⟨g, cs, q1, q2, q3, q4, q5, q6⟩
  · omega
  obtain ⟨d, k, n, xk, xn, xs, xo, sl, xa, a, e, hsub⟩ := q6 j hj
  refine ⟨_, slAt_of q1 hj, sl, cell_at q3 e 6 (by decide) rfl, (spoilE_c d hsub).mono ?_⟩
  rintro _ w1 ⟨⟨i, rfl⟩, hS1⟩
  obtain ⟨cs1, b1, m1, _⟩ := hS1.b g tA cs q2 q3
  have hfit := row_fit hj q4
  refine ⟨i, rfl, _, slAt_of q1 hj, g, j * 9, cs1, tA, rfl, b1, by rw [m1.len]; exact hfit, fun w2 hO2 hB2 => ⟨s.n - (j + 1), by omega, j + 1, by rw [wr' (by omega) (by omega)]; rfl, by omega, rfl, (hS.trans (hS1.up fun _ h => .inl h)).trans (Sp.one q2 (.inr rfl) b1 hO2 hB2 (mod_of rfl (by rw [m1.len]; exact hfit) (fun h => absurd h (by decide)) (fun _ => ⟨rfl, rfl⟩) (fun h => absurd h (by decide)) (fun h => absurd h (by decide))))⟩⟩
/-- types but nodes; types but nodes and moves -/
abbrev TyA : TypeId → Prop := fun e => e ≠ tN
abbrev TyB : TypeId → Prop := fun e => e ≠ tN ∧ e ≠ tM
theorem Sp.kept {T : TypeId → Prop} (h : Sp T F w w') {g : Nat} {e : TypeId} {cs : List Value} (hF : F g) (hB : Blk w g e cs) (hT : ¬ T e) : Blk w' g e cs := by
  obtain ⟨cs', b1, _, n1⟩ := h.b g e cs hF hB
  rw [n1 hT] at b1
  exact b1
theorem tyE {e : TypeId} (h : e = tE) : TyB e := by subst h; exact ⟨by decide, by decide⟩
theorem tyEA {e : TypeId} (h : e = tE ∨ e = tA) : TyB e := by rcases h with rfl | rfl <;> exact ⟨by decide, by decide⟩
theorem sum_take {ms : List Nat} {j m : Nat} (h : ms[j]? = some m) : (ms.take (j + 1)).sum = (ms.take j).sum + m := by
  rw [List.take_add_one, h, List.sum_append]
  simp
theorem sum_le {ms : List Nat} {j : Nat} : (ms.take j).sum ≤ ms.sum := by
  have h : (ms.take j ++ ms.drop j).sum = ms.sum := by rw [List.take_append_drop]
  rw [List.sum_append] at h
  omega
theorem spoilN_c : ∀ (d : Nat) {w : World} {s : Sl} {ms : List Nat}, LK w F (LN F d w) ms s → ms.sum ≤ 4611686018427387904 → Calls Tryz.prog 42 #[s.v] w fun e w' => (∃ i : Int, e = .returned (.int .i64 i) ∧ (ms.length : Int) ≤ i ∧ i ≤ (ms.sum : Int)) ∧ Sp (fun _ => True) F w w'
  | d, w, s, ms, h, hms => by
    refine (pavanelaw07_Spoil_wp s (fun v w' => (∃ i : Int, v = .int .i64 i ∧ (ms.length : Int) ≤ i ∧ i ≤ (ms.sum : Int)) ∧ Sp (fun _ => True) F w w') w ?_).mono (by
      rintro e w' ⟨v, rfl, ⟨i, rfl, h⟩, h2⟩; exact ⟨⟨i, rfl, h⟩, h2⟩)
    unfold pavanelaw07_Spoil_vc
    refine ⟨fun nv i0 i1 w' => ∃ j : Nat, i1 = (j : Int) ∧ j ≤ s.n ∧ nv = s.n - j ∧ (j : Int) ≤ i0 ∧ i0 ≤ ((ms.take j).sum : Int) ∧ Sp (fun _ => True) F w w', s.n, ⟨0, rfl, Nat.zero_le _, rfl, Int.le_refl _, by simp, Sp.refl _ _ _⟩, ?_⟩
    rintro nv i0 _ w0 ⟨j, rfl, hj, rfl, hi1, hi2, hS⟩
    have hln := h.1
    refine ⟨fun hc => ?_, fun hc => ⟨⟨i0, rfl, ?_, ?_⟩, hS⟩⟩
    rotate_left
    · have := of_decide_eq_false hc
      omega
    · have := sum_le (ms := ms) (j := j)
      omega
    have hj : j < s.n := by have := of_decide_eq_true hc; omega
    rcases (h.sp hS).2 with h0 | ⟨g, cs, q1, q2, q3, q4, q5, q6⟩
    · omega
    have hmj : ms[j]? = some ms[j] := List.getElem?_eq_getElem (by omega)
    generalize ms[j] = m at hmj
    have hst := sum_take hmj
    have hsl := sum_le (ms := ms) (j := j + 1)
    cases d with
    | zero => exact (q6 j m hmj).elim
    | succ d =>
      obtain ⟨k, nm, ini, dft, en, lv, mv, kids, a, e, h1, h2, h3, ms', hm', hk⟩ := q6 j m hmj
      refine ⟨_, slAt_of q1 hj, kids, cell_at q3 e 7 (by decide) rfl, (spoilN_c d hk (by omega)).mono ?_⟩
      rintro _ w1 ⟨⟨i2, rfl, hl1, hl2⟩, hS1⟩
      -- the element again, as it is now
      have hS01 := hS.trans hS1
      rcases (h.sp hS01).2 with h0 | ⟨g', cs1, q1', q2', q3', q4', q5', q6'⟩
      · omega
      rw [q1] at q1'
      injection q1' with q1'
      injection q1' with q1'
      subst q1'
      obtain ⟨k, nm, ini, dft, en, lv, mv, kids, a, e, h1, h2, h3, _⟩ := q6' j m hmj
      have hfit := row_fit hj q4'
      refine ⟨i2, rfl, _, slAt_of q1 hj, en, cell_at q3' e 4 (by decide) rfl, (spoilA_c h1).mono ?_⟩
      rintro _ w2 ⟨rfl, hS2⟩
      have hS2 := hS2.up fun _ h => tyEA h
      have b2 := hS2.kept q2' q3' fun h => h.1 rfl
      refine ⟨rfl, _, slAt_of q1 hj, lv, cell_at b2 e 5 (by decide) rfl, (spoilA_c (LA.rowsp h2 hS2)).mono ?_⟩
      rintro _ w3 ⟨rfl, hS3⟩
      have hS3 := hS2.trans (hS3.up fun _ h => tyEA h)
      refine ⟨rfl, fun nv i3 w' => ∃ k : Nat, i3 = (k : Int) ∧ k ≤ mv.n ∧ nv = mv.n - k ∧ Sp TyA F w1 w', mv.n, ⟨0, rfl, Nat.zero_le _, rfl, hS3.up fun _ h => h.1⟩, ?_⟩
      clear hS2 hS3 b2
      rintro nv _ w4 ⟨k, rfl, hk4, rfl, hS4⟩
      have b4 := hS4.kept q2' q3' fun h => h rfl
      refine ⟨_, slAt_of q1 hj, mv, cell_at b4 e 6 (by decide) rfl, fun hc => ?_, fun hc => ?_⟩
      · have hk4 : k < mv.n := by have := of_decide_eq_true hc; omega
        rcases LM.rowsp h3 hS4 with h0 | ⟨gm, cm, r1, r2, r3, r4, r5, r6⟩
        · omega
        obtain ⟨dm, k', ev, wt, gd, xk, xn, xs, xo, sl, xa, asl, tg, a', em, u1, u2, u3⟩ := r6 k hk4
        have hfitm := row_fit hk4 r4
        refine ⟨_, slAt_of q1 hj, mv, cell_at b4 e 6 (by decide) rfl, _, slAt_of r1 hk4, sl, cell_at r3 em 8 (by decide) rfl, (spoilE_c dm u1).mono ?_⟩
        rintro _ w5 ⟨⟨i4, rfl⟩, hS5⟩
        have hS5 := hS5.up fun _ h => tyE h
        have b5 := (hS4.trans (hS5.up fun _ h => h.1)).kept q2' q3' fun h => h rfl
        have m5 := hS5.kept r2 r3 fun h => h.2 rfl
        refine ⟨i4, rfl, _, slAt_of q1 hj, mv, cell_at b5 e 6 (by decide) rfl, _, slAt_of r1 hk4, asl, cell_at m5 em 10 (by decide) rfl, (spoilA_c (LA.rowsp u2 hS5)).mono ?_⟩
        rintro _ w6 ⟨rfl, hS6⟩
        have hS6 := hS5.trans (hS6.up fun _ h => tyEA h)
        refine ⟨rfl, fun nv i5 w' => ∃ t : Nat, i5 = (t : Int) ∧ t ≤ tg.n ∧ nv = tg.n - t ∧ Sp TyB F w4 w', tg.n, ⟨0, rfl, Nat.zero_le _, rfl, hS6⟩, ?_⟩
        clear hS5 hS6 b5 m5
        rintro nv _ w7 ⟨t, rfl, ht, rfl, hS7⟩
        have b7 := (hS4.trans (hS7.up fun _ h => h.1)).kept q2' q3' fun h => h rfl
        have m7 := hS7.kept r2 r3 fun h => h.2 rfl
        refine ⟨_, slAt_of q1 hj, mv, cell_at b7 e 6 (by decide) rfl, _, slAt_of r1 hk4, tg, cell_at m7 em 11 (by decide) rfl, fun hc => ?_, fun hc => ?_⟩
        · have ht : t < tg.n := by have := of_decide_eq_true hc; omega
          rcases u3.txsp hS7 with h0 | ⟨gt, ct, v1, v2, v3, v4, v5, v6⟩
          · omega
          have hfitt := row_fit ht v4
          refine ⟨_, slAt_of q1 hj, mv, cell_at b7 e 6 (by decide) rfl, _, slAt_of r1 hk4, tg, cell_at m7 em 11 (by decide) rfl, _, slAt_of v1 ht, gt, t * 1, ct, _, rfl, v3, hfitt, fun w8 hO8 hB8 => ⟨tg.n - (t + 1), by omega, t + 1, by rw [wr' (by omega) (by omega)]; rfl, by omega, rfl, hS7.trans (Sp.one v2 ⟨by decide, by decide⟩ v3 hO8 hB8 (mod_of (size := 1) rfl hfitt (fun h => absurd h (by decide)) (fun h => absurd h (by decide)) (fun h => absurd h (by decide)) (fun h => absurd h (by decide))))⟩⟩
        · refine ⟨_, slAt_of q1 hj, mv, cell_at b7 e 6 (by decide) rfl, _, slAt_of r1 hk4, gm, k * 13, cm, tM, rfl, m7, hfitm, fun w9 hO9 hB9 => ⟨mv.n - (k + 1), by omega, k + 1, by rw [wr' (by omega) (by omega)]; rfl, by omega, rfl, (hS4.trans (hS7.up fun _ h => h.1)).trans (Sp.one r2 (by show tM ≠ tN; decide) m7 hO9 hB9 (mod_of rfl hfitm (fun h => absurd h (by decide)) (fun h => absurd h (by decide)) (fun _ => ⟨rfl, rfl⟩) (fun h => absurd h (by decide))))⟩⟩
      · refine ⟨_, slAt_of q1 hj, g, j * 9, cs1, tN, rfl, b4, hfit, fun w10 hO10 hB10 => ⟨s.n - (j + 1), by omega, j + 1, by rw [wr' (by omega) (by omega)]; rfl, by omega, rfl, ?_, ?_, (hS01.trans (hS4.up fun _ _ => trivial)).trans (Sp.one q2' trivial b4 hO10 hB10 (mod_of rfl hfit (fun h => absurd h (by decide)) (fun h => absurd h (by decide)) (fun h => absurd h (by decide)) (fun _ => ⟨rfl, rfl⟩)))⟩⟩
        · rw [wr' (x := i0 + 1) (by omega) (by omega), wr' (by omega) (by omega)]
          omega
        · rw [wr' (x := i0 + 1) (by omega) (by omega), wr' (by omega) (by omega)]
          omega
end
end Go.Proofs.YtmanockofcopjaaGreatDoor.Con

namespace Go.Proofs.YtmanockofcopjaaGreatDoor.Con
open Go Go.RowKit Go.Kt Go.Kt.V Go.Proofs.YtmanockofcopjaaGreatDoor.Vc
set_option linter.unusedSimpArgs false
set_option linter.unusedVariables false
set_option maxHeartbeats 4000000
set_option maxRecDepth 100000

def rRaw : Rp (List Value) := fun _ _ x cs => cs = x ∧ ∀ v, v ∈ cs → v.oneCell' = true
theorem rRaw_ok : rRaw.Ok := ⟨fun h _ => h, fun h => h, fun h _ => h, fun h => h.2⟩
theorem spoilCh_c {d : Nat} {w : World} {F : Nat → Prop} {c : Ch} {vs : Sl} {cs : List Value} (h : ChR true d w F c vs cs) (hF : ∀ k, F k → k < w.heap.size) (hm : cntD d c.root ≤ 4611686018427387904) : Calls Tryz.prog 20 #[.agg (vs.v :: cs).toArray] w fun e w' => (∃ i : Int, e = .returned (.int .i64 i) ∧ 0 < i) ∧ OnlyP F w w' := by
  have hroot := h.root
  cases d with
  | zero => exact hroot.elim
  | succ d =>
    obtain ⟨en, lv, mv, kids, hcs, _⟩ := h.root
    have hone := (rNd_ok true (d + 1)).one hroot
    subst hcs
    refine (pavanelaw07_SpoilChart_wp vs c.root.b.k (T c.root.b.nm) (T c.root.b.ini) (T c.root.b.dft) en lv mv kids c.root.b.a (fun v w' => (∃ i : Int, v = .int .i64 i ∧ 0 < i) ∧ OnlyP F w w') w ?_).mono (by
      rintro e w' ⟨v, rfl, ⟨i, rfl, h⟩, h2⟩; exact ⟨⟨i, rfl, h⟩, h2⟩)
    unfold pavanelaw07_SpoilChart_vc
    intro k0 w0 hk0 hk0' hO0
    have z0 := hO0.size
    generalize hcs : ndv c.root.b.k c.root.b.nm c.root.b.ini c.root.b.dft en lv mv kids c.root.b.a = cs at *
    -- all that may turn: what was the chart's, and what is new
    have hvs : LR w (fun k => F k ∨ w0.heap.size ≤ k) 73 3 (fun _ => True) vs := (h.vars.mono rVr_ok (G := fun k => F k ∨ w0.heap.size ≤ k) fun k hk => .inl hk).lr fun _ _ _ => trivial
    have hln := rNd_ln ((rNd_ok true (d + 1)).mono hroot (G := fun k => F k ∨ w0.heap.size ≤ k) fun k hk => .inl hk)
    generalize hFF : (fun k => F k ∨ w0.heap.size ≤ k) = F' at *
    have hk0F : ¬ F' k0 := fun hk => by
      rw [← hFF] at hk
      rcases hk with hk | hk
      · have := hF k0 hk; omega
      · omega
    have fin : ∀ {w' : World}, Sp (fun _ => True) F' w w' → OnlyP F w w' := fun hs => hs.o.mono fun k hk hf => by
      rw [← hFF] at hf
      rcases hf with hf | hf
      · exact hf
      · omega
    refine ⟨fun nv i w' => ∃ j : Nat, i = (j : Int) ∧ j ≤ vs.n ∧ nv = vs.n - j ∧ Sp (fun _ => True) F' w w' ∧ w0.heap.size ≤ w'.heap.size, vs.n, ⟨0, rfl, Nat.zero_le _, rfl, Sp.quiet hO0, Nat.le_refl _⟩, ?_⟩
    rintro nv _ w1 ⟨j, rfl, hj, rfl, hS, hz⟩
    refine ⟨fun hc => ?_, fun _ => ?_⟩
    · have hj : j < vs.n := by have := of_decide_eq_true hc; omega
      rcases hvs.txsp hS with hn | ⟨g, cells, q1, q2, q3, q4, q5, q6⟩
      · omega
      have hfit := row_fit hj q4
      refine ⟨_, slAt_of q1 hj, g, j * 3, cells, _, rfl, q3, hfit, fun e => hk0F (by rw [e]; exact q2), fun w2 hO2 hB2 => ⟨vs.n - (j + 1), by omega, j + 1, by rw [wr' (by omega) (by omega)]; rfl, by omega, rfl, hS.trans (Sp.one q2 trivial q3 hO2 hB2 (mod_of (size := 3) rfl hfit (fun h => absurd h (by decide)) (fun h => absurd h (by decide)) (fun h => absurd h (by decide)) (fun h => absurd h (by decide)))), Nat.le_trans hz hO2.size⟩⟩
    · obtain ⟨s, w3, a1, a2, a3, _, a5, _⟩ := build_own (P := Tryz.prog) (t := 43) (e := 45) (i := Tryz.t45) (w := w1) (F := fun _ => False) (r := rRaw) (size := 9) (vs := [.agg cs.toArray]) (xs := [cs]) (len := 1) (parts := #[(0, .agg cs.toArray)]) (by kernel_rfl) (by kernel_rfl) rfl rfl (by decide) rfl rfl (by decide) (by decide) rRaw_ok ⟨⟨by rw [← hcs]; rfl, rfl, hone⟩, trivial⟩
      refine ⟨s, w3, by rw [← hcs] at a1; exact a1, a3.same (fun x hx => ⟨by simp only [List.mem_singleton] at hx; omega, by simp⟩), ?_⟩
      have hS3 := hS.trans (Sp.quiet a3)
      have hln3 := LN.sp hS3 _ hln
      rcases a2 with ⟨_, hx⟩ | ⟨g, css, tail, b1, b2, b3, b4, b5, b6, b7, b8⟩
      · cases hx
      have hcss : css = [cs] := by
        match css, b8 with
        | [c0], h => rw [h.1.2.1]
        | _ :: _ :: _, h => exact h.2.elim
      subst hcss
      have hlk : LK w3 F' (LN F' (d + 1) w3) [cntD (d + 1) c.root] s := ⟨by rw [b5]; rfl, .inr ⟨g, _, b1, by rw [← hFF]; exact .inr (by omega), b3, by rw [b5, List.length_append]; simp only [List.length_singleton, List.flatten_cons, List.flatten_nil, List.append_nil]; rw [← hcs]; simp, by rw [b5]; simp, fun i m hi => by
        have e0 : i = 0 := by
          have := (List.getElem?_eq_some_iff.1 hi).1
          simp only [List.length_singleton] at this
          omega
        subst e0
        simp only [List.getElem?_cons_zero, Option.some.injEq] at hi
        subst hi
        have : chunk (([cs] : List (List Value)).flatten ++ tail) 9 0 = cs := by
          unfold chunk
          rw [Nat.zero_mul, List.drop_zero, List.flatten_cons, List.flatten_nil, List.append_nil, List.take_append_of_le_length (by rw [← hcs]; simp), List.take_of_length_le (by rw [← hcs]; simp)]
        rw [this]
        exact hln3⟩⟩
      refine (spoilN_c (d + 1) hlk (by simpa using hm)).mono ?_
      rintro _ w4 ⟨⟨i, rfl, hi1, _⟩, hS4⟩
      refine ⟨i, rfl, fun x hx => ?_, ⟨i, rfl, ?_⟩, fin (hS3.trans hS4)⟩
      · simp only [List.mem_singleton] at hx
        subst hx
        have := a3.size
        exact hS4.o.block x (by omega) hk0F
      · simp only [List.length_singleton] at hi1
        omega

/-! ## how many nodes -/
section
variable {ts : List Tk} (hE : EndL ts)
theorem cnt0 (d : Nat) : cntD d nd0 ≤ 1 := by
  cases d with
  | zero => exact Nat.zero_le _
  | succ d => rw [cntD]; simp [nd0, Nd.kids]
include hE
theorem kids_cnt {d : Nat} {N : Int → Sx → Nd × Sx} (q : Int) (hN : ∀ k s, s.d = q → s.i < ts.length → s.fc = 0 → On ts s (N k s).2 ∧ cntD d (N k s).1 + mu ts (N k s).2 ≤ mu ts s + 1) : ∀ (f : Nat) (acc : List Nd) (s : Sx), s.d = q → s.i < ts.length → (((kidsS ts N f acc s).1.map (cntD d)).sum) + mu ts (kidsS ts N f acc s).2 ≤ ((acc.map (cntD d)).sum) + mu ts s
  | 0, _, _, _, _ => Nat.le_refl _
  | f + 1, acc, s, hq, hi => by
    rw [kidsS]
    split
    · exact Nat.le_refl _
    · rename_i hw
      obtain ⟨h0, h5⟩ := which_ne hw
      have hi' := hE.next hi h5
      obtain ⟨hon, hc⟩ := hN (whichS ts s wKinds : Nat) (nextS s) hq hi' h0
      have ih := kids_cnt q hN f (acc ++ [(N (whichS ts s wKinds : Nat) (nextS s)).1]) (N (whichS ts s wKinds : Nat) (nextS s)).2 (hon.d.trans hq) (hon.lt hi')
      rw [List.map_append, List.sum_append] at ih
      simp only [List.map_cons, List.map_nil, List.sum_cons, List.sum_nil, Nat.add_zero] at ih
      have e1 : mu ts s = ts.length - s.i := by unfold mu; rw [if_pos h0]
      have e2 : mu ts (nextS s) = ts.length - (s.i + 1) := by unfold mu nextS; rw [if_pos h0]
      omega
theorem body_cnt {d : Nat} {N : Int → Sx → Nd × Sx} {n : Nb} {s : Sx} (hd : InI s.d) (hi : s.i < ts.length) (hN : ∀ k u, u.d = dec s.d → u.i < ts.length → u.fc = 0 → On ts u (N k u).2 ∧ cntD d (N k u).1 + mu ts (N k u).2 ≤ mu ts u + 1) : cntD (d + 1) (bodyS ts N n s).1 + mu ts (bodyS ts N n s).2 ≤ mu ts s + 1 := by
  unfold bodyS
  dsimp only
  have h1 := clauses_on hE (ts.length + 1) n ⟨false, false, false⟩ { s with d := dec s.d }
  generalize clausesS ts (ts.length + 1) n ⟨false, false, false⟩ { s with d := dec s.d } = C at *
  have h2 := kids_cnt hE (d := d) (dec s.d) hN (ts.length + 1) [] C.2 h1.d (h1.lt hi)
  generalize kidsS ts N (ts.length + 1) [] C.2 = K at *
  have h3 : mu ts (mustS ts ⟨K.2.i, K.2.fc, K.2.fa, K.2.v, K.2.n, inc K.2.d, K.2.m, K.2.a⟩ [125]) ≤ mu ts K.2 := (must_on hE [125]).mu
  have h4 : mu ts C.2 ≤ mu ts s := h1.mu
  rw [cntD]
  simp only [List.map_nil, List.sum_nil, Nat.zero_add] at h2
  show 1 + ((K.1.map (cntD d)).sum) + mu ts (mustS ts ⟨K.2.i, K.2.fc, K.2.fa, K.2.v, K.2.n, inc K.2.d, K.2.m, K.2.a⟩ [125]) ≤ _
  omega
theorem node_cnt : ∀ (f : Nat) (d : Nat) (k : Int) (s : Sx), InI s.d → s.i < ts.length → cntD d (nodeS ts f k s).1 + mu ts (nodeS ts f k s).2 ≤ mu ts s + 1
  | 0, d, k, s, _, _ => by
    have := cnt0 d
    show cntD d nd0 + mu ts s ≤ _
    omega
  | f + 1, 0, k, s, hd, hi => by
    have := (node_on hE (f + 1) k s hd).mu
    show 0 + _ ≤ _
    omega
  | f + 1, d + 1, k, s, hd, hi => by
    rw [nodeS]
    have h1 := named_on hE k s
    split
    · have h2 := (((h1.trans (must_on hE [45, 62])).trans (name_on hE)).trans (must_on hE [59])).mu
      rw [cntD]
      simp only [Nd.kids, List.map_nil, List.sum_nil]
      omega
    · have h2 := h1.trans (must_on hE [123])
      have h3 := body_cnt hE (d := d) (N := nodeS ts f) (n := (namedS ts k s).1) (s := mustS ts (namedS ts k s).2 [123]) (by rw [h2.d]; exact hd) (h2.lt hi) fun k' u hu hui _ => ⟨node_on hE f k' u (by rw [hu]; exact wrapIn _), node_cnt f d k' u (by rw [hu]; exact wrapIn _) hui⟩
      have h4 := h2.mu
      omega
end
theorem parse_cnt (l : List UInt8) : cntD 15 (parseC l).1.root ≤ 16386 := by
  unfold parseC
  split
  · have := cnt0 15
    show cntD 15 nd0 ≤ _
    omega
  · rename_i h0
    obtain ⟨hE, _, h1, h2⟩ := tokensM_ok (by simpa using h0)
    generalize (tokensM l).1 = ts at *
    split
    · have := cnt0 15
      show cntD 15 nd0 ≤ _
      omega
    · have on1 : On ts sx0 (varsS ts (ts.length + 1) [] (mustS ts (namedS ts 1 (mustS ts sx0 wChart)).2 [123])).2 := (((must_on hE _).trans (named_on hE _ _)).trans (must_on hE _)).trans (vars_on hE _ _ _)
      have hb := body_cnt hE (d := 14) (N := nodeS ts 14) (n := (namedS ts 1 (mustS ts sx0 wChart)).1) (s := (varsS ts (ts.length + 1) [] (mustS ts (namedS ts 1 (mustS ts sx0 wChart)).2 [123])).2) (by rw [on1.d]; exact ⟨by decide, by decide⟩) (on1.lt (by show 0 < ts.length; omega)) fun k' u hu hui _ => ⟨node_on hE 14 k' u (by rw [hu]; exact wrapIn _), node_cnt hE 14 14 k' u (by rw [hu]; exact wrapIn _) hui⟩
      change cntD 15 _ + _ ≤ _ at hb
      have hm := mu_le ts (varsS ts (ts.length + 1) [] (mustS ts (namedS ts 1 (mustS ts sx0 wChart)).2 [123])).2
      show cntD 15 (bodyS ts (nodeS ts 14) (namedS ts 1 (mustS ts sx0 wChart)).1 (varsS ts (ts.length + 1) [] (mustS ts (namedS ts 1 (mustS ts sx0 wChart)).2 [123])).2).1 ≤ _
      omega
end Go.Proofs.YtmanockofcopjaaGreatDoor.Con

namespace Go.Proofs.YtmanockofcopjaaGreatDoor.Con
open Go Go.RowKit Go.Kt Go.Kt.V Go.Proofs.YtmanockofcopjaaGreatDoor.Vc
set_option linter.unusedSimpArgs false
set_option linter.unusedVariables false
set_option maxHeartbeats 4000000

theorem ChR.off {d : Nat} {w : World} {F : Nat → Prop} {c : Ch} {vs : Sl} {cs : List Value} (h : ChR true d w F c vs cs) : ChR false d w F c vs cs := ⟨h.vars.off fun _ _ _ h => h, rNd_off h.root⟩
theorem ChR.keep {t : Bool} {d : Nat} {w w' : World} {F : Nat → Prop} {c : Ch} {vs : Sl} {cs : List Value} (h : ChR t d w F c vs cs) (hk : ∀ k, F k → k < w.heap.size → w'.heap[k]? = w.heap[k]?) : ChR t d w' F c vs cs := ⟨h.vars.keep rVr_ok (by decide) hk, (rNd_ok t d).keep h.root hk⟩
theorem ChR.here {t : Bool} {d : Nat} {w : World} {B : Nat} {c : Ch} {vs : Sl} {cs : List Value} (h : ChR t d w (Fr B) c vs cs) : ChR t d w (fun k => B ≤ k ∧ k < w.heap.size) c vs cs := ⟨h.vars.inHeap rVr_ok (by decide), (rNd_ok t d).inHeap h.root⟩
theorem ChR.only {t : Bool} {d : Nat} {w w' : World} {F : Nat → Prop} {c : Ch} {vs : Sl} {cs : List Value} (h : ChR t d w F c vs cs) (hO : Only [] w w') : ChR t d w' F c vs cs := h.keep fun k _ hlt => hO.block k hlt (by simp)
def smallT : List UInt8 := [99, 104, 97, 114, 116, 32, 99, 32, 123, 32, 118, 97, 114, 32, 110, 32, 61, 32, 45, 50, 59, 32, 105, 110, 105, 116, 105, 97, 108, 32, 97, 59, 32, 115, 116, 97, 116, 101, 32, 97, 32, 123, 32, 111, 110, 32, 103, 111, 32, 91, 110, 32, 60, 32, 48, 93, 32, 123, 32, 115, 101, 116, 32, 110, 32, 61, 32, 110, 32, 43, 32, 49, 59, 32, 125, 32, 45, 62, 32, 98, 59, 32, 125, 32, 115, 116, 97, 116, 101, 32, 98, 32, 123, 32, 125, 32, 125]
def okS (p : Ch × Int × Int) : Bool := p.2.1 == 0 && (match p.1.vars with
  | [v] => v.v == -2
  | _ => false) && decide (p.1.root.b.ini = [97]) && (match p.1.root.kids with
  | [x, _] => (match x.b.mv with
    | [m] => m.gd
    | _ => false)
  | _ => false)
theorem small_ok : okS (parseC smallT) = true := by kernel_rfl
theorem synsmall_c (w : World) (hE : Er w) : Calls Tryz.prog 16 #[] w fun e w' => e = .returned (.bool true) ∧ Only [] w w' := by
  refine ret (pavanelaw07_small_wp (fun v w' => v = (.bool true) ∧ Only [] w w') w ?_)
  unfold pavanelaw07_small_vc
  refine (sparse_c smallT hE).mono ?_
  rintro _ w0 ⟨vs, cs, rfl, hC, hO0⟩
  have hok := small_ok
  generalize parseC smallT = P at *
  obtain ⟨⟨vars, root⟩, fc, fa⟩ := P
  obtain ⟨rb, rk⟩ := root
  unfold okS at hok
  dsimp only [Nd.b, Nd.kids] at hok hC
  simp only [Bool.and_eq_true, beq_iff_eq, decide_eq_true_eq] at hok
  obtain ⟨⟨⟨hfc, hv⟩, hini⟩, hk⟩ := hok
  have z0 := hO0.size
  match vars, hv with
  | [v], hv =>
    match rk, hk with
    | [x, y], hk =>
      obtain ⟨xb, xk⟩ := x
      dsimp only [Nd.b] at hk
      obtain ⟨xk0, xnm, xini, xdft, xen, xlv, xmv, xa⟩ := xb
      dsimp only at hk
      match xmv, hk with
      | [m], hk =>
        have hr := hC.root
        obtain ⟨en, lv, mv, kids, rfl, _, hkids⟩ := hr
        have hv : v.v = -2 := by simpa using hv
        refine ⟨vs, _, _, _, _, en, lv, mv, kids, _, _, _, rfl, fun k0 k1 w1 hk0 hk0' hk1 hk1' hO1 => ?_⟩
        have hC1 := hC.only hO1
        have hl1 : vs.n = 1 := hC.vars.1.len
        have hl2 : kids.n = 2 := hkids.1.len
        obtain ⟨p, v', vc, g1, g2, _, _, g5, g6⟩ := hC1.vars.1.get (i := 0) (by decide) (by omega)
        simp only [Int.toNat_zero, List.getElem?_cons_zero, Option.some.injEq] at g2
        subst g2
        unfold rVr at g6
        subst g6
        have hkids1 := hkids.1.keep (rNd_ok true 14) (by decide) (w' := w1) fun k _ hlt => hO1.block k hlt (by simp)
        obtain ⟨q, x', xc, q1, q2, _, _, q5, q6⟩ := hkids1.get (i := 0) (by decide) (by omega)
        simp only [Int.toNat_zero, Nd.kids, List.getElem?_cons_zero, Option.some.injEq] at q2
        subst q2
        obtain ⟨en', lv', mv', kids', rfl, hnb, _⟩ := q6
        have hl3 : mv'.n = 1 := hnb.2.2.1.len
        obtain ⟨r, m', mc, r1, r2, _, _, r5, r6⟩ := hnb.2.2.1.get (i := 0) (by decide) (by omega)
        simp only [Nd.b, Int.toNat_zero, List.getElem?_cons_zero, Option.some.injEq] at r2
        subst r2
        obtain ⟨gc, asl, tg, rfl, _⟩ := r6
        refine ⟨p, fun _ => g1, _, fun _ => g5.at1 1 _ rfl, q, fun _ => q1, mv', fun _ => q5.at1 6 _ rfl, q, fun _ => q1, mv', fun _ => q5.at1 6 _ rfl, r, fun _ => r1, m.gd, fun _ => r5.at1 3 _ rfl, ?_, hO0.tr0 hO1⟩
        have e1 : ((vs.n : Int) == 1) = true := by rw [hl1]; rfl
        have e2 : ((kids.n : Int) == 2) = true := by rw [hl2]; rfl
        have e3 : ((mv'.n : Int) == 1) = true := by rw [hl3]; rfl
        have e4 : ((T rb.ini).toList == (T [97]).toList) = true := by rw [T_eq]; exact hini
        have e5 : (fc == 0) = true := by rw [hfc]; rfl
        have e6 : (v.v == -2) = true := by rw [hv]; rfl
        dsimp only [Nd.b]
        show Value.bool (((((((fc == 0) && ((vs.n : Int) == 1)) && (v.v == -2)) && ((T rb.ini).toList == (T [97]).toList)) && ((kids.n : Int) == 2)) && ((mv'.n : Int) == 1)) && m.gd) = _
        have hk : m.gd = true := hk
        rw [e1, e2, e3, e4, e5, e6, hk]
        rfl
theorem synreads_c {w : World} (l : List UInt8) (hE : Er w) : Calls Tryz.prog 4 #[.string (T l)] w fun e w' => e = .returned (.bool true) ∧ Only [] w w' := by
  refine ret (pavanelaw07_SyntaxReads_wp (T l) (fun v w' => v = (.bool true) ∧ Only [] w w') w ?_)
  unfold pavanelaw07_SyntaxReads_vc
  refine (synsmall_c w hE).mono ?_
  rintro _ w0 ⟨rfl, hO0⟩
  have hE0 := hE.only hO0
  have hcnt := parse_cnt l
  refine ⟨_, rfl, (sparse_c l hE0).mono ?_⟩
  rintro _ w1 ⟨vs, cs, rfl, hC, hO1⟩
  have hE1 := hE0.only hO1
  obtain ⟨en, lv, mv, kids, rfl, _⟩ := hC.root
  refine ⟨vs, _, _, _, _, en, lv, mv, kids, _, _, _, rfl, fun k0 k1 w2 hk0 hk0' hk1 hk1' hO2 => (sparse_c l (hE1.only hO2)).mono ?_⟩
  rintro _ w3 ⟨vs2, cs2, rfl, hC2, hO3⟩
  obtain ⟨en2, lv2, mv2, kids2, rfl, _⟩ := hC2.root
  have z1 := hO1.size
  have z2 := hO2.size
  have z3 := hO3.size
  refine ⟨vs2, _, _, _, _, en2, lv2, mv2, kids2, _, _, _, rfl, hO3.same (by simp; omega), fun k2 k3 w4 hk2 hk2' hk3 hk3' hO4 => (yparse_c w4 l).mono ?_⟩
  rintro _ w5 ⟨vs3, cs3, rfl, hC3, hO5⟩
  obtain ⟨en3, lv3, mv3, kids3, rfl, _⟩ := hC3.root
  have z4 := hO4.size
  have z5 := hO5.size
  refine ⟨vs3, _, _, _, _, en3, lv3, mv3, kids3, _, _, _, rfl, hO5.same (by simp; omega), fun k4 k5 w6 hk4 hk4' hk5 hk5' hO6 => ?_⟩
  have z6 := hO6.size
  generalize parseC l = P at *
  have o16 := ((hO2.tr0 hO3).tr0 hO4).tr0 (hO5.tr0 hO6)
  have c6 := hC.here.only o16
  have d6 := hC2.here.only (hO4.tr0 (hO5.tr0 hO6))
  have e6 := hC3.here.only hO6
  refine (sameCh_c (t := true) c6.off e6.off (ChE.refl _ _ _)).mono ?_
  rintro _ w7 ⟨rfl, hO7⟩
  have z7 := hO7.size
  refine ⟨_, rfl, hO7.same (by simp; omega), (spoilCh_c (c6.only hO7) (fun k hk => by have := hk.2; omega) (by omega)).mono ?_⟩
  rintro _ w8 ⟨⟨i, rfl, hi⟩, hO8⟩
  have z8 := hO8.size
  have d8 := (d6.only hO7).keep fun k hk hlt => hO8.block k hlt fun hh => (by have := hk.1; have := hh.2; omega)
  have e8 := (e6.only hO7).keep fun k hk hlt => hO8.block k hlt fun hh => (by have := hk.1; have := hh.2; omega)
  refine ⟨i, rfl, hO8.same (fun x hx => ⟨by simp only [List.mem_cons, List.not_mem_nil, or_false] at hx; omega, fun hh => by have := hh.2; simp only [List.mem_cons, List.not_mem_nil, or_false] at hx; omega⟩), (sameCh_c (t := true) d8.off e8.off (ChE.refl _ _ _)).mono ?_⟩
  rintro _ w9 ⟨rfl, hO9⟩
  refine ⟨_, rfl, hO9.same (by simp; omega), ?_, ?_⟩
  · simp [hi]
  · have o07 : Only [] w w7 := (((hO0.tr0 hO1).tr0 o16).tr0 hO7)
    have z0 := hO0.size
    exact (((o07.p0 (F := fun _ => False)).trans hO8 fun k hk => .inr (by have := hk.1; omega)).only fun k h => h.elim).tr0 hO9
end Go.Proofs.YtmanockofcopjaaGreatDoor.Con
