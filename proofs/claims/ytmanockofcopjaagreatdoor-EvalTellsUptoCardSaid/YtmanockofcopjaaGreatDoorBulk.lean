/-
  Own work: arguments read as plain data, and how much of it there is (the second form's bound). No program in sight.
-/
import Derived.Test.YtmanockofcopjaaGreatDoorLaw0
import Derived.JoinedCond
import Derived.Deep.CondSized
namespace Go.Kt
open Go Go.RowKit Go.ChangeShapes Go.WideShapes
set_option linter.unusedSimpArgs false
set_option linter.unusedVariables false

/-- B counts at least every part -/
structure IsBulk {H : Type} (B : DataW H → Nat) : Prop where
  one : ∀ d, 1 ≤ B d
  sl : ∀ e s, (e.map B).sum + 1 ≤ B (.slice e s)
  str : ∀ b, b.length + 1 ≤ B (.lit (.string b))
  agg : ∀ p, (p.map B).sum + 1 ≤ B (.agg p)
  ptr : ∀ d, B d + 1 ≤ B (.ptr d)
  iface : ∀ t d, B d + 1 ≤ B (.iface t d)
section
variable {H : Type} {enc : TypeId × Value → H} {P : Program} {W : World} {base : Nat} {spare : Nat → Bool} {held : Bool} {α β : Type} {B : DataW H → Nat}
def rStr : Rp ByteArray := fun _ _ s cs => cs = [.string s] ∧ s.size ≤ 140737488351232
theorem rStr_ok : rStr.Ok where
  keep h _ := h
  inHeap h := h
  mono h _ := h
  one := by
    rintro w F x cs ⟨rfl, _⟩ v hv
    simp only [List.mem_singleton] at hv
    subst hv; rfl
/-- whatever reads as a datum of type t is one of r, and its measure is at most the datum's bulk -/
def OpensB (B : DataW H → Nat) (enc : TypeId × Value → H) (P : Program) (W : World) (base : Nat) (spare : Nat → Bool) (held : Bool) (t : TypeId) (r : Rp α) (m : α → Nat) : Prop :=
  ∀ (fuel : Nat) (cs : List Value) (x : DataW H × List MemPlace), DataW.trod enc P W base spare held fuel t cs = some x → (∀ n, n ∈ x.1.weights P t → n ≤ reachBytes) → ∃ a : α, r W (fun _ => True) a cs ∧ m a ≤ B x.1
theorem opensB_of (hB : IsBulk B) {t : TypeId} {r : Rp α} (h : Opens enc P W base spare held t r) : OpensB B enc P W base spare held t r fun _ => 1 := fun fuel cs x hx hw => by
  obtain ⟨a, ha⟩ := h fuel cs x hx hw
  exact ⟨a, ha, hB.one _⟩
theorem opensB_str (hB : IsBulk B) {t : TypeId} (ht : P.underlying t = some .string) : OpensB B enc P W base spare held t rStr fun s => s.size + 1 := fun fuel cs x h hw => by
  obtain ⟨s, rfl, rfl, hs⟩ := DataW.trod_string ht h
  have h1 := hw _ (by simp only [DataW.weights]; exact List.mem_cons_self)
  have e : s.data.toList.length = s.size := by rw [Array.length_toList]; rfl
  simp only [e, reachBytes] at h1
  refine ⟨s, ⟨rfl, ?_⟩, ?_⟩
  · omega
  · have := hB.str s.data.toList
    rw [e] at this
    exact this
theorem sum_le {p : α → Nat} {g : Nat → Nat} : ∀ {l : List α} {o : Nat}, (∀ i b, l[i]? = some b → p b ≤ g (o + i)) → (l.map p).sum ≤ ((List.range l.length).map fun i => g (o + i)).sum
  | [], _, _ => by simp
  | a :: l, o, h => by
    rw [List.length_cons, List.range_succ_eq_map, List.map_cons, List.map_cons, List.sum_cons, List.sum_cons, List.map_map]
    have h0 := h 0 a rfl
    have ih := sum_le (p := p) (g := g) (l := l) (o := o + 1) fun i b hb => by
      have := h (i + 1) b hb
      rw [show o + 1 + i = o + (i + 1) by omega]
      exact this
    refine Nat.add_le_add h0 (Nat.le_trans ih (Nat.le_of_eq ?_))
    congr 1
    refine List.map_congr_left fun i _ => ?_
    show g _ = g _
    congr 1
    omega
theorem opensB_slice (hB : IsBulk B) {t e : TypeId} {r : Rp α} {m : α → Nat} {size : Nat} (ht : P.underlying t = some (.slice e)) (hs : P.cellsOf e = size) {bytes : Nat} (hb : P.bytesOf e = bytes) (he : OpensB B enc P W base spare held e r m) :
    OpensB B enc P W base spare held t (rSl r size bytes) fun xs => (xs.map m).sum + 1 := fun fuel cs x h hw => by
  subst hs
  rcases Deep.open_slice ht h with ⟨rfl, rfl⟩ | ⟨a, len, cap, mm, n, D, Pl, rfl, _, hl, hm, hmm, rfl, hel⟩
  · exact ⟨[], ⟨Sl.nil, rfl, SliceF.nil _ _ _ _, by simp⟩, hB.one _⟩
  · have hlm : len ≤ mm := by rw [hmm]; split <;> omega
    have hex : ∀ i, i < len → ∃ b : α, (∃ cs', cs'.length = P.cellsOf e ∧ Cells W (a.add (i * P.cellsOf e)) cs' ∧ r W (fun _ => True) b cs') ∧ m b ≤ B (D i) := fun i hi => by
      obtain ⟨cs', g1, g2⟩ := hel i (by omega)
      obtain ⟨_, g3, g4⟩ := World.cells?_some g1
      obtain ⟨b, g5, g6⟩ := he n cs' _ g2 fun k hk => hw k (by
        simp only [DataW.weights, ht, List.mem_cons, List.mem_append]
        exact .inr (.inl (weightsAll_mem (List.mem_map.2 ⟨i, List.mem_range.2 hi, rfl⟩) k hk)))
      refine ⟨b, ⟨cs', g3, fun j v hj => ?_, g5⟩, g6⟩
      rw [g4 j (by have := (List.getElem?_eq_some_iff.1 hj).1; omega)]
      exact hj
    obtain ⟨l, h1, h2⟩ := choose_list len hex
    refine ⟨l, ⟨⟨some a, len, cap⟩, rfl, ⟨h1.symm, hl, fun h => (by cases h), hm, fun j x hj => ?_⟩, ?_⟩, ?_⟩
    · obtain ⟨⟨cs', g1, g2, g3⟩, _⟩ := h2 j x hj
      exact ⟨a, cs', rfl, trivial, g1, g2, g3⟩
    · have := hw _ (by simp only [DataW.weights, ht]; exact List.mem_cons_self)
      rw [hb] at this
      simp only [List.length_map, List.length_range, reachBytes] at this
      rw [h1]
      have h3 : len * bytes ≤ (len + (mm - len)) * bytes := Nat.mul_le_mul_right _ (by omega)
      omega
    · have h3 := hB.sl ((List.range len).map D) ((List.range (mm - len)).map fun j => D (len + j))
      refine Nat.le_trans (Nat.succ_le_succ ?_) h3
      have h4 := sum_le (p := m) (g := fun i => B (D i)) (l := l) (o := 0) fun i b hb => by
        rw [Nat.zero_add]
        exact (h2 i b hb).2
      rw [h1] at h4
      rw [List.map_map]
      simpa [Function.comp_def] using h4
/-- the fields fs, from place off on, T cells in all, read as r -/
def FOpenB (B : DataW H → Nat) (enc : TypeId × Value → H) (P : Program) (W : World) (base : Nat) (spare : Nat → Bool) (held : Bool) (T off : Nat) (fs : List Field) (r : Rp α) (m : α → Nat) : Prop :=
  ∀ (n : Nat) (cs : List Value) (xs : List (DataW H × List MemPlace)), cs.length = T → xs.length = fs.length →
    (∀ (i : Nat) (f : Field), fs[i]? = some f → DataW.trod enc P W base spare held n f.type ((cs.drop f.offset).take (P.cellsOf f.type)) = xs[i]?) →
    (∀ (i : Nat) (f : Field) (x : DataW H × List MemPlace), fs[i]? = some f → xs[i]? = some x → ∀ k, k ∈ x.1.weights P f.type → k ≤ reachBytes) → ∃ a : α, r W (fun _ => True) a (cs.drop off) ∧ m a ≤ (xs.map fun x => B x.1).sum
theorem foB_nil {T off : Nat} (h : T = off) : FOpenB B enc P W base spare held T off [] rUnit fun _ => 0 := fun n cs xs hl _ _ _ => ⟨(), by
  show cs.drop off = []
  exact List.drop_eq_nil_of_le (by omega), Nat.zero_le _⟩
theorem foB_cons {T off s : Nat} {f : Field} {fs : List Field} {r : Rp α} {q : Rp β} {m : α → Nat} {m' : β → Nat} (ho : f.offset = off) (hs : P.cellsOf f.type = s) (hr : OpensB B enc P W base spare held f.type r m) (hq : FOpenB B enc P W base spare held T (off + s) fs q m') :
    FOpenB B enc P W base spare held T off (f :: fs) (rPair r q) fun x => m x.1 + m' x.2 := fun n cs xs hl hx hf hw => by
  cases xs with
  | nil => simp at hx
  | cons x xs =>
    have h0 := hf 0 f rfl
    rw [ho, hs] at h0
    obtain ⟨a, ha, ha'⟩ := hr n _ x h0 (hw 0 f x rfl rfl)
    obtain ⟨b, hb, hb'⟩ := hq n cs xs hl (by simpa using hx) (fun i g hg => hf (i + 1) g hg) (fun i g y hg hy => hw (i + 1) g y hg hy)
    refine ⟨(a, b), ⟨_, _, by rw [← List.drop_drop, List.take_append_drop], ha, hb⟩, ?_⟩
    rw [List.map_cons, List.sum_cons]
    exact Nat.add_le_add ha' hb'
theorem opensB_struct (hB : IsBulk B) {t : TypeId} {fs : Array Field} {T : Nat} {r : Rp α} {m : α → Nat} (ht : P.underlying t = some (.struct fs)) (hT : P.cellsOf t = T) (hF : FOpenB B enc P W base spare held T 0 fs.toList r m) : OpensB B enc P W base spare held t r fun x => m x + 1 := fun fuel cs x h hw => by
  obtain ⟨xs, n, rfl, rfl, hl, hxl, hf⟩ := DataW.trod_struct ht h
  obtain ⟨a, ha, ha'⟩ := hF n cs xs (by omega) (by simpa using hxl) (fun i f hi => hf i f (by simpa using hi)) (fun i f x hi hx k hk => hw k (by
    simp only [DataW.weights, ht]
    refine DataW.weights_mem_each (j := i) ?_ (by rw [List.getElem?_map, hx]; rfl) k hk
    simp only [Array.toList_map, List.getElem?_map, hi]
    rfl))
  refine ⟨a, by simpa using ha, Nat.le_trans (Nat.succ_le_succ ha') ?_⟩
  have := hB.agg (xs.map (·.1))
  rwa [List.map_map] at this
theorem OpensB.map {t : TypeId} {r : Rp α} {q : Rp β} {m : α → Nat} {m' : β → Nat} (h : OpensB B enc P W base spare held t r m) (f : α → β) (hf : ∀ a cs, r W (fun _ => True) a cs → q W (fun _ => True) (f a) cs ∧ m' (f a) ≤ m a) : OpensB B enc P W base spare held t q m' := fun fuel cs x hx hw => by
  obtain ⟨a, ha, ha'⟩ := h fuel cs x hx hw
  obtain ⟨h1, h2⟩ := hf a cs ha
  exact ⟨f a, h1, Nat.le_trans h2 ha'⟩
/-- an argument that is a slice -/
theorem argB_slice {t e : TypeId} {r : Rp α} {m : List α → Nat} {size bytes : Nat} {b0 : Nat} {v : Value} {d : DataW H} {p : List MemPlace} (ht : P.underlying t = some (.slice e)) (hok : Value.okWide P W .any b0 t v) (h : DataW.Trod enc P W base spare held t v d p)
    (hop : OpensB B enc P W base spare held t (rSl r size bytes) m) (hw : ∀ n, n ∈ d.weights P t → n ≤ reachBytes) : ∃ (s : Sl) (xs : List α), v = s.v ∧ SliceF r size W (fun _ => True) s xs ∧ m xs ≤ B d := by
  obtain ⟨a0, len0, cap0, rfl⟩ := okWide_slice ht hok
  obtain ⟨fuel, hf⟩ := h
  obtain ⟨xs, ⟨s, h1, h2, h3⟩, h4⟩ := hop fuel _ _ hf hw
  have h1 : [Value.slice a0 len0 cap0] = [s.v] := h1
  simp only [List.cons.injEq, and_true] at h1
  exact ⟨s, xs, h1, h2, h4⟩
theorem argB_struct {t : TypeId} {fs : Array Field} {r : Rp α} {m : α → Nat} {b0 : Nat} {v : Value} {d : DataW H} {p : List MemPlace} (ht : P.underlying t = some (.struct fs)) (hok : Value.okWide P W .any b0 t v) (h : DataW.Trod enc P W base spare held t v d p)
    (hop : OpensB B enc P W base spare held t r m) (hw : ∀ n, n ∈ d.weights P t → n ≤ reachBytes) : ∃ (a : α) (cs : List Value), v = .agg cs.toArray ∧ r W (fun _ => True) a cs ∧ m a ≤ B d := by
  obtain ⟨cs, rfl, _⟩ := okWide_struct ht hok
  obtain ⟨fuel, hf⟩ := h
  obtain ⟨a, ha, ha'⟩ := hop fuel _ _ hf hw
  exact ⟨a, cs.toList, by simp, ha, ha'⟩
theorem sum_one : ∀ l : List α, (l.map fun _ => 1).sum = l.length
  | [] => rfl
  | _ :: l => by rw [List.map_cons, List.sum_cons, sum_one l, List.length_cons]; omega
end
end Go.Kt
