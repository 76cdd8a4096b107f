/-
  Own work: TimersTells.
-/
import Derived.Test.YtbklgfggodgddaaTimRef2
namespace Go.Proofs.Ytbklgfggodgddaa.Con
open Go Go.RowKit Go.Kt Go.Kt.V Go.Proofs.Ytbklgfggodgddaa.Vc
set_option linter.unusedSimpArgs false
set_option linter.unusedVariables false
set_option maxHeartbeats 4000000

theorem iclone {w : World} {F : Nat → Prop} {s : Sl} {l : List Int} (h : SliceF rInt 1 w F s l) (hm : l.length * 8 ≤ 140737488355328) :
    ∃ x1 w1, (Instr.buildSlice 32 0 #[]).run Try.prog w = .ok (Sl.v x1) w1 ∧ Only [] w w1 ∧ ∃ x2 w2, (Builtin.append_ #[32, 32] 32 #[Sl.v x1, Sl.v s]).run Try.prog w1 = .ok (Sl.v x2) w2 ∧ SliceF rInt 1 w2 (fun _ => True) x2 l ∧ OnlyP (fun k => w.heap.size ≤ k) w1 w2 := by
  obtain ⟨x1, w1, k1, k2, x2, w2, k3, k4, k5⟩ := clone_two (P := Try.prog) (t := 32) (ty := 32) (e := 3) (i := Try.t3) (bytes := 8) (size := 1) (by kernel_rfl) (by kernel_rfl) rfl rfl rfl rfl (by decide) rInt_ok h hm (by decide)
  exact ⟨x1, w1, k1, k2, x2, w2, k3, (k4.slice rInt_ok).mono rInt_ok fun _ _ => trivial, k5⟩
def cOf (l : List Tim) : Int := if RightT l then 0 else 1
def xOf (l X : List Tim) : List Tim := if RightT l then X else []
def EqI (a b : Int) : Prop := a = b
/-- what Set and Drop answer, in one -/
theorem ans {B : Nat} {w w' : World} {l X : List Tim} {s' : Sl} {c : Int} (h : Only [] w w' ∧ ((RightT l ∧ c = 0 ∧ OwnU B w' s' X) ∨ (¬ RightT l ∧ c = 1 ∧ s' = Sl.nil))) : Only [] w w' ∧ EqI c (cOf l) ∧ OwnU B w' s' (xOf l X) := by
  unfold cOf xOf EqI
  rcases h with ⟨h1, ⟨h2, rfl, h3⟩ | ⟨h2, rfl, rfl⟩⟩
  · rw [if_pos h2, if_pos h2]; exact ⟨h1, rfl, h3⟩
  · rw [if_neg h2, if_neg h2]; exact ⟨h1, rfl, Own.nil _ _ _ _ _ _⟩
theorem dues {B B' : Nat} {w w' : World} {l : List Tim} {now : Int} {t t' : Tim} {s s' : Sl} {b b' : Bool} (h : DueA B w l now t s b) (h' : DueA B' w' l now t' s' b') : t = t' ∧ b = b' ∧ ∃ r, OwnU B w s r ∧ OwnU B' w' s' r := by
  rcases h with ⟨r, h1, rfl, h2⟩ | ⟨h1, rfl, rfl, rfl⟩
  · rcases h' with ⟨r', h1', rfl, h2'⟩ | ⟨h1', _⟩
    · obtain ⟨e, _, _⟩ := h1
      obtain ⟨e', _, _⟩ := h1'
      rw [e] at e'
      injection e' with e1 e2
      subst e2
      exact ⟨e1, rfl, r, h2, h2'⟩
    · exact absurd h1 (h1' t r)
  · rcases h' with ⟨r', h1', _⟩ | ⟨h1', rfl, rfl, rfl⟩
    · exact absurd h1' (h1 t' r')
    · exact ⟨rfl, rfl, [], Own.nil _ _ _ _ _ _, Own.nil _ _ _ _ _ _⟩
theorem tells_c {w : World} {F G H : Nat → Prop} {s sa sn : Sl} {l add : List Tim} {nodes : List Int} (h : Tims w F s l) (ha : Tims w G sa add) (hn : SliceF rInt 1 w H sn nodes) (hl : (l.length + add.length + 2) * 24 ≤ 140737488355328) (hnl : nodes.length * 8 ≤ 140737488355328) (now : Int) :
    Calls Try.prog 4 #[Sl.v s, Sl.v sa, Sl.v sn, .int .i64 now] w fun e w' => e = .returned (.bool true) ∧ Only [] w w' := by
  refine ret (pavanelaw14_TimersTells_wp s sa sn now (fun v w' => v = .bool true ∧ Only [] w w') w ?_)
  unfold pavanelaw14_TimersTells_vc
  have q0 : l.length * 24 ≤ 140737488355328 := by omega
  have q1 : (l.length + 1) * 24 ≤ 140737488355328 := Nat.le_trans (Nat.mul_le_mul_right 24 (by omega)) hl
  have q2 : nodes.length < 4611686018427387903 := by omega
  have q3 : add.length * 24 ≤ 140737488355328 := by omega
  have q4 : l.length < 140737488355328 := by omega
  have hs := h.inHeap rTim_ok (by decide)
  have has := ha.inHeap rTim_ok (by decide)
  have hns := hn.inHeap rInt_ok (by decide)
  have fl : ∀ {u : World}, Only [] w u → Tims u _ s l := fun hO => SliceF.only rTim_ok (by decide) hs hO (by simp)
  have fa : ∀ {u : World}, Only [] w u → Tims u _ sa add := fun hO => SliceF.only rTim_ok (by decide) has hO (by simp)
  have fn : ∀ {u : World}, Only [] w u → SliceF rInt 1 u _ sn nodes := fun hO => SliceF.only rInt_ok (by decide) hns hO (by simp)
  refine (small_c w).mono ?_
  rintro _ w0 ⟨rfl, hO0⟩
  obtain ⟨l0, w1, a1, a2, l1, w2, a3, m1, a5⟩ := rclone_T (fl hO0) q0
  have c2 := hO0.tr0 (up2 a2 a5)
  obtain ⟨l2, w3, b1, b2, l3, w4, b3, m3, b5⟩ := rclone_T (fa c2) q3
  have c24 := up2 b2 b5
  have c4 := c2.tr0 c24
  obtain ⟨l4, w5, d1, d2, l5, w6, d3, m5, d5⟩ := iclone (fn c4) hnl
  have c46 := up2 d2 d5
  have c6 := c4.tr0 c46
  have m1 : OwnU w0.heap.size w6 l1 l := OwnU.only m1 (c24.tr0 c46)
  have m3 : OwnU w2.heap.size w6 l3 add := OwnU.only m3 c46
  have p1 : ∀ k, l1.a = some ⟨k, 0, none⟩ → k < w6.heap.size := fun k e => (m1.blk e).2
  refine ⟨true, rfl, l0, w1, a1, l1, w2, a3, l2, w3, b1, l3, w4, b3, l4, w5, d1, l5, w6, d3, ?_⟩
  -- the program's answers
  refine (set_c m1.sl m3.sl (Nat.le_trans (Nat.mul_le_mul_right 24 (by omega)) hl)).mono ?_
  rintro _ w7 ⟨l6, i0, rfl, h7⟩
  obtain ⟨hO7, e0, h7⟩ := ans h7
  refine ⟨l6, i0, rfl, ?_⟩
  have m1 : OwnU w0.heap.size w7 l1 l := OwnU.only m1 hO7
  have m5 : SliceF rInt 1 w7 (fun _ => True) l5 nodes := SliceF.only rInt_ok (by decide) m5 hO7 (by simp)
  refine (drop_c m1.sl m5 q0 q2).mono ?_
  rintro _ w8 ⟨l7, i1, rfl, h8⟩
  obtain ⟨hO8, e1, h8⟩ := ans h8
  refine ⟨l7, i1, rfl, ?_⟩
  have m1 : OwnU w0.heap.size w8 l1 l := OwnU.only m1 hO8
  refine (due_c m1.sl q0 now).mono ?_
  rintro _ w9 ⟨t, l8, b1', rfl, hO9, h9⟩
  refine ⟨t.d, t.n, t.s, l8, b1', rfl, fun k0 w10 hk0 hk0' hO10 => ?_⟩
  -- the document's
  have c10 := c6.tr0 (hO7.tr0 (hO8.tr0 (hO9.tr0 hO10)))
  refine (rset_c (fl c10) (fa c10) hl).mono ?_
  rintro _ w11 ⟨l9, i5, rfl, h11⟩
  obtain ⟨hO11, e5, h11⟩ := ans h11
  have c11 := c10.tr0 hO11
  refine ⟨l9, i5, rfl, hO11.same (by simp; omega), ?_⟩
  refine (rdrop_c (fl c11) (fn c11) q1 q2).mono ?_
  rintro _ w12 ⟨l10, i6, rfl, h12⟩
  obtain ⟨hO12, e6, h12⟩ := ans h12
  have c12 := c11.tr0 hO12
  have z6 := c6.size
  have z7 := hO7.size
  have z8 := hO8.size
  have z9 := hO9.size
  have z11 := hO11.size
  have z12 := hO12.size
  refine ⟨l10, i6, rfl, hO12.same (by simp; omega), ?_⟩
  refine (rdue_c (fl c12) q0 now).mono ?_
  rintro _ w13 ⟨u, l11, b2', rfl, hO13, h13⟩
  have z13 := hO13.size
  obtain ⟨et, eb, r, h9, h13⟩ := dues h9 h13
  refine ⟨u.d, u.n, u.s, l11, b2', rfl, hO13.same (by simp; omega), fun k1 w14 hk1 hk1' hO14 => ?_⟩
  have c14 := c12.tr0 (hO13.tr0 hO14)
  -- who lies where in w14
  have x914 := hO10.tr0 (hO11.tr0 (hO12.tr0 (hO13.tr0 hO14)))
  have x614 := hO7.tr0 (hO8.tr0 (hO9.tr0 x914))
  have m1 : OwnU w0.heap.size w14 l1 l := OwnU.only m1 (hO9.tr0 x914)
  have m3 : OwnU w2.heap.size w14 l3 add := OwnU.only m3 x614
  have m5 : SliceF rInt 1 w14 (fun _ => True) l5 nodes := SliceF.only rInt_ok (by decide) m5 (hO8.tr0 (hO9.tr0 x914)) (by simp)
  have p6 := fun {ad} => h7.blk (ad := ad)
  have p7 := fun {ad} => h8.blk (ad := ad)
  have p8 := fun {ad} => h9.blk (ad := ad)
  have h7 : OwnU w6.heap.size w14 l6 _ := OwnU.only h7 (hO8.tr0 (hO9.tr0 x914))
  have h8 : OwnU w7.heap.size w14 l7 _ := OwnU.only h8 (hO9.tr0 x914)
  have h9 : OwnU w8.heap.size w14 l8 r := OwnU.only h9 x914
  have h11 : OwnU w10.heap.size w14 l9 _ := OwnU.only h11 (hO12.tr0 (hO13.tr0 hO14))
  have h12 : OwnU w11.heap.size w14 l10 _ := OwnU.only h12 (hO13.tr0 hO14)
  have h13 : OwnU w12.heap.size w14 l11 r := OwnU.only h13 hO14
  have z14 := hO14.size
  have sm : ∀ {v v' : World}, Only [] w14 v → Only [] v v' → Same [k0, k1] v v' := fun h1 h2 => h2.same (by have := h1.size; simp; omega)
  refine ⟨fun b w' => b = true ∧ Only [] w14 w', ?_, ?_⟩
  case refine_2 =>
    refine (same_c m1.sl (fl c14)).mono ?_
    rintro _ w27 ⟨rfl, hO27⟩
    rw [decide_eq_true rfl]
    refine ⟨_, rfl, sm (Only.refl _ _) hO27, fun _ => ?_, fun e => (by cases e)⟩
    refine (same_c (OwnU.only m3 hO27).sl (fa (c14.tr0 hO27))).mono ?_
    rintro _ w28 ⟨rfl, hO28⟩
    rw [decide_eq_true rfl]
    refine ⟨_, rfl, sm hO27 hO28, fun _ => ?_, fun e => (by cases e)⟩
    have x28 := hO27.tr0 hO28
    refine (sameI_c (SliceF.only rInt_ok (by decide) m5 x28 (by simp)) (fn (c14.tr0 x28))).mono ?_
    rintro _ w29 ⟨rfl, hO29⟩
    rw [decide_eq_true rfl]
    exact ⟨_, rfl, sm x28 hO29, rfl, x28.tr0 hO29⟩
  rintro _ w15 ⟨rfl, hO15⟩
  refine ⟨fun b w' => b = true ∧ Only [] w14 w', ?_, ?_⟩
  case refine_2 =>
    refine (same_c (OwnU.only h7 hO15).sl (OwnU.only h11 hO15).sl).mono ?_
    rintro _ w24 ⟨rfl, hO24⟩
    rw [decide_eq_true rfl]
    have x24 := hO15.tr0 hO24
    refine ⟨_, rfl, sm hO15 hO24, fun _ => ?_, fun e => (by cases e)⟩
    refine (same_c (OwnU.only h8 x24).sl (OwnU.only h12 x24).sl).mono ?_
    rintro _ w25 ⟨rfl, hO25⟩
    rw [decide_eq_true rfl]
    have x25 := x24.tr0 hO25
    refine ⟨_, rfl, sm x24 hO25, fun _ => ?_, fun e => (by cases e)⟩
    refine (same_c (OwnU.only h9 x25).sl (OwnU.only h13 x25).sl).mono ?_
    rintro _ w26 ⟨rfl, hO26⟩
    rw [decide_eq_true rfl]
    exact ⟨_, rfl, sm x25 hO26, rfl, x25.tr0 hO26⟩
  rintro _ w16 ⟨rfl, hO16⟩
  have c16 := c14.tr0 hO16
  have z16 := hO16.size
  -- from here on the answers' blocks may turn
  have D6 : ∀ {v : World}, OnlyP (fun k => w6.heap.size ≤ k ∧ k < w9.heap.size) w16 v → Tims v _ l1 l := fun hO => SliceF.onlyP rTim_ok (by decide) (OwnU.only m1 hO16).sl hO fun k hk _ hd => by
    have h1 := p1 k hk.2
    omega
  have Dl : ∀ {v : World}, OnlyP (fun k => w6.heap.size ≤ k ∧ k < w9.heap.size) w16 v → Tims v _ s l := fun hO => SliceF.onlyP rTim_ok (by decide) (fl c16) hO fun k hk _ hd => by omega
  refine ⟨fun b w' => b = true ∧ OnlyP (fun k => w6.heap.size ≤ k ∧ k < w9.heap.size) w16 w', ?_, ?_⟩
  case refine_1 =>
    rintro _ w17 ⟨rfl, hO17⟩
    refine ⟨fun b w' => b = true ∧ OnlyP (fun k => w6.heap.size ≤ k ∧ k < w9.heap.size) w16 w', ?_, fun _ => ?_, fun hb => ?_⟩
    · rintro _ w18 ⟨rfl, hO18⟩
      exact ⟨rfl, ((c16.p0 (F := fun k => w.heap.size ≤ k)).trans hO18 fun k hk => by omega).only fun k hk => hk⟩
    · have zz := hO17.size
      refine (right_c (Dl hO17) q4).mono ?_
      rintro _ w19 ⟨rfl, hO19⟩
      refine ⟨_, rfl, hO19.same (by simp; omega), ?_⟩
      have zz2 := hO19.size
      refine (rright_c (Dl (hO17.tr0 hO19)) q4).mono ?_
      rintro _ w20 ⟨rfl, hO20⟩
      exact ⟨_, rfl, hO20.same (by simp; omega), by simp, (hO17.tr0 hO19).tr0 hO20⟩
    · exfalso
      unfold EqI at e0 e5 e1 e6
      rw [e0, e5, e1, e6, et, eb] at hb
      simp at hb
  case refine_2 =>
    have sm2 : ∀ {v v' : World}, w16.heap.size ≤ v.heap.size → OnlyP (fun k => w6.heap.size ≤ k ∧ k < w9.heap.size) v v' → Same [k0, k1] v v' := fun hv hO => hO.same (by intro x hx; simp only [List.mem_cons, List.not_mem_nil, or_false] at hx; omega)
    have ov : ∀ {B : Nat} {v : World} {a : Sl} {xs : List Tim}, OwnU B w16 a xs → w6.heap.size ≤ B → (∀ ad, a.a = some ad → ad.block < w9.heap.size) → OnlyP (fun k => w6.heap.size ≤ k ∧ k < w9.heap.size ∧ a.a ≠ some ⟨k, 0, none⟩) w16 v →
        Calls Try.prog 17 #[Sl.v a, Sl.v l1, Sl.v s] v fun e w' => e = .returned (.bool true) ∧ OnlyP (fun k => w6.heap.size ≤ k ∧ k < w9.heap.size ∧ a.a = some ⟨k, 0, none⟩) v w' := by
      intro B v a xs ho hB h9' hv
      have hv' : OnlyP (fun k => w6.heap.size ≤ k ∧ k < w9.heap.size) w16 v := hv.mono fun k _ hk => ⟨hk.1, hk.2.1⟩
      have hov : OwnU B v a xs := OwnU.p ho hv fun k hk hd => hd.2.2 hk
      refine (over_c hov (D6 hv') (Dl hv') (fun k hk _ e => ?_) (fun k hk _ e => ?_)).mono ?_
      · have h1 := (hov.blk e).1
        have h2 := p1 k hk.2
        dsimp only at h1
        omega
      · have h1 := (hov.blk e).1
        dsimp only at h1
        omega
      · rintro _ w' ⟨rfl, hO⟩
        exact ⟨by rw [decide_eq_true rfl], hO.mono fun k _ hk => ⟨by omega, h9' _ hk.2, hk.2⟩⟩
    have dj : ∀ {B : Nat} {v v' : World} {a : Sl} {k : Nat}, (∀ ad, a.a = some ad → B ≤ ad.block) → k < B → a.a ≠ some ⟨k, 0, none⟩ := fun h hk e => by
      have := h _ e
      dsimp only at this
      omega
    refine (ov (OwnU.only h7 hO16) (Nat.le_refl _) (fun ad e => by have := (p6 e).2; omega) (OnlyP.refl _ _)).mono ?_
    rintro _ w21 ⟨rfl, hO21⟩
    have t21 : OnlyP (fun k => w6.heap.size ≤ k ∧ k < w9.heap.size) w16 w21 := hO21.mono fun k _ hk => ⟨hk.1, hk.2.1⟩
    refine ⟨_, rfl, sm2 (Nat.le_refl _) t21, fun _ => ?_, fun e => (by cases e)⟩
    refine (ov (OwnU.only h8 hO16) (by omega) (fun ad e => by have := (p7 e).2; omega) (hO21.mono fun k _ hk => ⟨hk.1, hk.2.1, fun e => ?_⟩)).mono ?_
    · have i1 := (p6 hk.2.2).2
      have i2 := (p7 e).1
      dsimp only at i1 i2
      omega
    rintro _ w22 ⟨rfl, hO22⟩
    have t2122 : OnlyP (fun k => w6.heap.size ≤ k ∧ k < w9.heap.size) w21 w22 := hO22.mono fun k _ hk => ⟨hk.1, hk.2.1⟩
    have t22 := t21.trans t2122 fun k hk => .inl hk
    refine ⟨_, rfl, sm2 t21.size t2122, fun _ => ?_, fun e => (by cases e)⟩
    refine (ov (OwnU.only h9 hO16) (by omega) (fun ad e => (p8 e).2) ((hO21.mono (G := fun k => w6.heap.size ≤ k ∧ k < w9.heap.size ∧ l8.a ≠ some ⟨k, 0, none⟩) fun k _ hk => ⟨hk.1, hk.2.1, fun e => ?_⟩).trans (hO22.mono (G := fun k => w6.heap.size ≤ k ∧ k < w9.heap.size ∧ l8.a ≠ some ⟨k, 0, none⟩) fun k _ hk => ⟨hk.1, hk.2.1, fun e => ?_⟩) fun k hk => .inl hk)).mono ?_
    · have i1 := (p6 hk.2.2).2
      have i2 := (p8 e).1
      dsimp only at i1 i2
      omega
    · have i1 := (p7 hk.2.2).2
      have i2 := (p8 e).1
      dsimp only at i1 i2
      omega
    rintro _ w23 ⟨rfl, hO23⟩
    have t2223 : OnlyP (fun k => w6.heap.size ≤ k ∧ k < w9.heap.size) w22 w23 := hO23.mono fun k _ hk => ⟨hk.1, hk.2.1⟩
    exact ⟨_, rfl, sm2 t22.size t2223, rfl, t22.trans t2223 fun k hk => .inl hk⟩
end Go.Proofs.Ytbklgfggodgddaa.Con
