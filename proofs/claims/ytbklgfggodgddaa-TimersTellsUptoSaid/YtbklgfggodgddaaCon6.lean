/-
  Own work: what the functions of the timers package do: rows alike, Drop, Due.
-/
import Derived.Test.YtbklgfggodgddaaCon5
namespace Go.Proofs.Ytbklgfggodgddaa.Con
open Go Go.RowKit Go.Kt Go.Kt.V Go.Proofs.Ytbklgfggodgddaa.Vc
set_option linter.unusedSimpArgs false
set_option linter.unusedVariables false

theorem same_c {w : World} {F G : Nat → Prop} {a b : Sl} {xs ys : List Tim} (ha : Tims w F a xs) (hb : Tims w G b ys) :
    Calls Try.prog 10 #[Sl.v a, Sl.v b] w fun e w' => e = .returned (.bool (decide (xs = ys))) ∧ Only [] w w' := by
  refine ret (pavaneref14_Same_wp a b (fun v w' => v = .bool (decide (xs = ys)) ∧ Only [] w w') w ?_)
  unfold pavaneref14_Same_vc
  have hal := ha.len
  have hbl := hb.len
  have hcap := ha.cap
  have hbig := ha.big
  refine ⟨fun hc => ⟨?_, Only.refl _ _⟩, fun hc => ?_⟩
  · have hc : ¬ (a.n : Int) = b.n := by simpa using hc
    rw [decide_eq_false]
    rintro rfl
    omega
  have hab : xs.length = ys.length := by
    have hc : (a.n : Int) = b.n := by simpa using hc
    omega
  refine ⟨fun nv i w' => ∃ n : Nat, n ≤ xs.length ∧ i = (n : Int) ∧ nv = xs.length - n ∧ xs.take n = ys.take n ∧ Only [] w w', xs.length, ⟨0, Nat.zero_le _, rfl, rfl, rfl, Only.refl _ _⟩, ?_⟩
  rintro nv _ w1 ⟨n, hn, rfl, rfl, he, hO⟩
  refine ⟨fun hc => ?_, fun hc => ?_⟩
  · have hlt : (n : Int) < a.n := of_decide_eq_true hc
    obtain ⟨ad, x, cs, g1, g2, g3, g4, g5, rfl, g6⟩ := (SliceF.only rTim_ok (by decide) ha hO (by simp)).get (Int.natCast_nonneg n) hlt
    obtain ⟨bd, y, ds, f1, f2, f3, f4, f5, rfl, f6⟩ := (SliceF.only rTim_ok (by decide) hb hO (by simp)).get (Int.natCast_nonneg n) (by omega)
    rw [Int.toNat_natCast] at g2 f2
    have hxy : ((x.d == y.d) && ((x.n == y.n) && (x.s == y.s))) = decide (x = y) := by
      obtain ⟨a1, a2, a3⟩ := x
      obtain ⟨b1, b2, b3⟩ := y
      rw [Bool.eq_iff_iff]
      simp
    refine ⟨ad, g1, _, _, _, g5, bd, f1, _, _, _, f5, ?_⟩
    rw [hxy]
    refine ⟨fun h w2 hO2 => ⟨?_, hO.tr0 hO2⟩, fun h w2 hO2 => ?_⟩
    · rw [decide_eq_false]
      rintro rfl
      rw [g2] at f2
      injection f2 with f2
      simp [f2] at h
    · have h : x = y := by simpa using h
      subst h
      rw [wr' (by omega) (by omega)]
      refine ⟨xs.length - (n + 1), by omega, n + 1, by omega, rfl, rfl, ?_, hO.tr0 hO2⟩
      rw [List.take_add_one, List.take_add_one, he, g2, f2]
  · have hge : ¬ ((n : Int) < a.n) := of_decide_eq_false hc
    refine ⟨?_, hO⟩
    rw [List.take_of_length_le (by omega), List.take_of_length_le (by omega)] at he
    rw [decide_eq_true he]

def dropT (l : List Tim) (nodes : List Int) : List Tim := l.filter fun o => !nodes.contains o.n
def fDrop1 (g : Nat) : OV := ⟨.func (.func 26) #[] #[.pointer (some ⟨g, 0, none⟩)], rfl⟩
theorem drop_c {w : World} {F G : Nat → Prop} {s sn : Sl} {l : List Tim} {nodes : List Int} (h : Tims w F s l) (hn : SliceF rInt 1 w G sn nodes) (hl : l.length * 24 ≤ 140737488355328) (hnl : nodes.length < 4611686018427387903) :
    Calls Try.prog 11 #[Sl.v s, Sl.v sn] w fun e w' => ∃ (s' : Sl) (c : Int), e = .returned (.tuple #[s'.v, .int .i64 c]) ∧ Only [] w w' ∧ ((RightT l ∧ c = 0 ∧ OwnU w.heap.size w' s' (dropT l nodes)) ∨ (¬ RightT l ∧ c = 1 ∧ s' = Sl.nil)) := by
  refine (timers_Drop_wp s sn (fun v w' => ∃ (s' : Sl) (c : Int), v = (.tuple #[s'.v, .int .i64 c]) ∧ Only [] w w' ∧ ((RightT l ∧ c = 0 ∧ OwnU w.heap.size w' s' (dropT l nodes)) ∨ (¬ RightT l ∧ c = 1 ∧ s' = Sl.nil))) w ?_).mono (by
    rintro e w' ⟨v, rfl, s', c, rfl, h⟩; exact ⟨s', c, rfl, h⟩)
  unfold timers_Drop_vc
  intro g w0 hg1 hg2 hO0
  refine (right_c (SliceF.only rTim_ok (by decide) h hO0 (by simp)) (by omega)).mono ?_
  rintro _ w1 ⟨rfl, hO1⟩
  have hs0 := hO0.size
  have hs1 := hO1.size
  refine ⟨_, rfl, hO1.same (by simp; omega), fun hx => ?_, fun hy => ?_⟩
  · exact ⟨Sl.nil, 1, rfl, hO0.tr0 hO1, .inr ⟨by simpa using hx, rfl, rfl⟩⟩
  have hR : RightT l := by simpa using hy
  refine (clone_T (SliceF.only rTim_ok (by decide) h (hO0.tr0 hO1) (by simp)) hl).mono ?_
  rintro _ w2 ⟨s1, rfl, hown, hO2⟩
  have hs2 := hO2.size
  refine ⟨s1, rfl, hO2.same (by simp; omega), fun hb => ?_⟩
  have hO02 : Only [] w w2 := hO0.tr0 (hO1.tr0 hO2)
  have hn2 : SliceF rInt 1 w2 (fun k => k = g ∨ k < w.heap.size) sn nodes := (SliceF.only rInt_ok (by decide) (hn.inHeap rInt_ok (by decide)) hO02 (by simp)).mono rInt_ok fun k hk => .inr hk.2
  have ho2 : OwnU w1.heap.size w2 s1 l := OwnU.of hown
  refine (delete_T (f := fDrop1 g) ho2 (by omega) (D := fun k => k = g ∨ k < w.heap.size) (fun k hk e => ?_) (drop1_c (nodes := nodes) (sn := sn) g (.inl rfl) hnl) ⟨hb, hn2⟩ rfl).mono ?_
  · have := (ho2.blk hk).1
    dsimp only at this
    omega
  rintro _ w3 ⟨s3, rfl, ea, ec, ho3, hO3, hb3, hn3⟩
  have ho3 : OwnU w.heap.size w3 s3 (dropT l nodes) := OwnU.of (ho3.low (by omega))
  refine ⟨s3, rfl, sn, hb3, s3, 0, rfl, ?_, .inl ⟨hR, rfl, ho3⟩⟩
  have h3 : OnlyP (fun k => w.heap.size ≤ k) w w3 := hO02.p0.trans hO3 fun k hk => .inl (hk.elim False.elim fun hk => by have := (ho2.blk hk).1; dsimp only at this; omega)
  exact h3.only fun k hk => hk
end Go.Proofs.Ytbklgfggodgddaa.Con
