
/-
  Own work: frames by what is known of them: 'fr n us l': n slots, those of l known, the others 'us'. One law for each kind of operation at such a frame. No program in sight.
-/
import Derived.Test.YtmanockofcopjaaGreatDoorBase
import Derived.KernelRfl
namespace Go.Kt
open Go Go.RowKit
set_option linter.unusedSimpArgs false
set_option linter.unusedVariables false

def look (us : Nat → Value) : List (Nat × Value) → Nat → Value
  | [], i => us i
  | (k, v) :: r, i => bif Nat.beq k i then v else look us r i
def lookO : List (Nat × Value) → Nat → Option Value
  | [], _ => none
  | (k, v) :: r, i => bif Nat.beq k i then some v else lookO r i
def tab (us : Nat → Value) (l : List (Nat × Value)) : Nat → Nat → List Value
  | 0, _ => []
  | n + 1, i => look us l i :: tab us l n (i + 1)
def fr (n : Nat) (us : Nat → Value) (l : List (Nat × Value)) : Act := ⟨(tab us l n 0).toArray, []⟩
def evO (n : Nat) (l : List (Nat × Value)) : Operand → Option Value
  | .tmp k => bif Nat.blt k n then lookO l k else none
  | .const v => some v
  | .global g => some (.pointer (some ⟨g, 0, none⟩))
  | .func f => some (.func (.func f) #[] #[])
def evOs (n : Nat) (l : List (Nat × Value)) : List Operand → Option (List Value)
  | [] => some []
  | x :: r => match evO n l x, evOs n l r with
    | some v, some vs => some (v :: vs)
    | _, _ => none
def evPs (n : Nat) (l : List (Nat × Value)) : List (Nat × Operand) → Option (List (Nat × Value))
  | [] => some []
  | (i, x) :: r => match evO n l x, evPs n l r with
    | some v, some vs => some ((i, v) :: vs)
    | _, _ => none
def pl : Option Tmp → Value → List (Nat × Value) → List (Nat × Value)
  | some k, v, l => (k, v) :: l
  | none, _, l => l
def numb : Nat → List Value → List (Nat × Value)
  | _, [] => []
  | i, v :: r => (i, v) :: numb (i + 1) r
section
variable {n0 : Nat} {us0 : Nat → Value} {l0 : List (Nat × Value)}
theorem tab_len (us : Nat → Value) (l : List (Nat × Value)) : ∀ n i, (tab us l n i).length = n
  | 0, _ => rfl
  | n + 1, i => by simp only [tab, List.length_cons, tab_len us l n (i + 1)]
theorem tab_get (us : Nat → Value) (l : List (Nat × Value)) : ∀ n i k, k < n → (tab us l n i)[k]? = some (look us l (i + k))
  | 0, _, _, h => by omega
  | n + 1, i, 0, _ => rfl
  | n + 1, i, k + 1, h => by
    simp only [tab, List.getElem?_cons_succ]
    rw [tab_get us l n (i + 1) k (by omega), show i + 1 + k = i + (k + 1) by omega]
theorem look_of {us : Nat → Value} : ∀ {l : List (Nat × Value)} {k : Nat} {v : Value}, lookO l k = some v → look us l k = v
  | [], _, _, h => by cases h
  | (j, u) :: r, k, v, h => by
    simp only [lookO, look] at h ⊢
    cases hb : Nat.beq j k with
    | true => rw [hb] at h; simpa using h
    | false => rw [hb] at h; exact look_of (l := r) (by simpa using h)
theorem look_no {us : Nat → Value} : ∀ {l : List (Nat × Value)} {k : Nat}, lookO l k = none → look us l k = us k
  | [], _, _ => rfl
  | (j, u) :: r, k, h => by
    simp only [lookO, look] at h ⊢
    cases hb : Nat.beq j k with
    | true => rw [hb] at h; simp at h
    | false => rw [hb] at h; exact look_no (l := r) (by simpa using h)
theorem ev_tmp {k : Nat} (hk : k < n0) : (fr n0 us0 l0).eval (.tmp k) = look us0 l0 k := by
  show (tab us0 l0 n0 0).toArray.getD k undef = _
  rw [Array.getD_eq_getD_getElem?, List.getElem?_toArray, tab_get _ _ _ _ _ hk, Nat.zero_add]
  rfl
theorem evE {x : Operand} {v : Value} (h : evO n0 l0 x = some v) : (fr n0 us0 l0).eval x = v := by
  cases x with
  | tmp k =>
    simp only [evO] at h
    cases hb : Nat.blt k n0 with
    | false => rw [hb] at h; cases h
    | true =>
      rw [hb] at h
      rw [ev_tmp (Nat.le_of_ble_eq_true hb)]
      exact look_of h
  | const u => simpa [evO, Act.eval] using h
  | global g => simpa [evO, Act.eval] using h
  | func f => simpa [evO, Act.eval] using h
theorem look_cons_ne {us : Nat → Value} {l : List (Nat × Value)} {k i : Nat} {v : Value} (h : k ≠ i) : look us ((k, v) :: l) i = look us l i := by
  have : Nat.beq k i = false := by
    cases hb : Nat.beq k i with
    | false => rfl
    | true => exact absurd (Nat.eq_of_beq_eq_true hb) h
  simp only [look, this, cond_false]
theorem look_cons_eq {us : Nat → Value} {l : List (Nat × Value)} {k : Nat} {v : Value} : look us ((k, v) :: l) k = v := by
  simp only [look, Nat.beq_refl, cond_true]
theorem putF {k : Nat} {v : Value} : (fr n0 us0 l0).put (some k) v = fr n0 us0 ((k, v) :: l0) := by
  unfold fr
  rw [f0]
  congr 2
  apply List.ext_getElem?
  intro i
  rw [List.getElem?_set, tab_len]
  by_cases hi : i < n0
  · rw [tab_get _ _ _ _ _ hi, tab_get _ _ _ _ _ hi, Nat.zero_add]
    split
    · rename_i h
      subst h
      rw [if_pos hi, look_cons_eq]
    · rename_i h
      rw [look_cons_ne h]
  · rw [List.getElem?_eq_none (by rw [tab_len]; omega), List.getElem?_eq_none (by rw [tab_len]; omega)]
    split
    · rename_i h
      subst h
      rw [if_neg hi]
    · rfl
theorem look_numb : ∀ (args : List Value) (j i : Nat), look (fun _ => undef) (numb j args) i = if j ≤ i then (args[i - j]?).getD undef else undef
  | [], j, i => by simp [numb, look]
  | v :: r, j, i => by
    simp only [numb]
    by_cases hij : j = i
    · subst hij
      rw [look_cons_eq, if_pos (Nat.le_refl _)]
      simp
    · rw [look_cons_ne hij, look_numb r (j + 1) i]
      by_cases hle : j ≤ i
      · rw [if_pos hle, if_pos (by omega), show i - j = (i - (j + 1)) + 1 by omega, List.getElem?_cons_succ]
      · rw [if_neg hle, if_neg (by omega)]
end

section
variable {P : Program} {ops : Array Oper} {Q : Exit → Act → World → Prop} {rest : List Oper} {w w' : World} {n0 : Nat} {us0 : Nat → Value} {l0 : List (Nat × Value)}
/-! ### guards -/
def asB : Value → Option Bool
  | .bool b => some b
  | _ => none
theorem yieldedF {opsl : List Oper} {j d : Nat} {oj : Oper} {v : Value} (h2 : nthO opsl j = some oj) (h3 : oj.dst = some d) (h4 : evO n0 l0 (.tmp d) = some v) :
    yielded opsl.toArray (fr n0 us0 l0).tmps j = asB v := by
  rw [nthO_eq] at h2
  have hd : d < n0 := by
    simp only [evO] at h4
    cases hb : Nat.blt d n0 with
    | false => rw [hb] at h4; cases h4
    | true => exact Nat.le_of_ble_eq_true hb
  have h5 := evE (us0 := us0) h4
  rw [ev_tmp hd] at h5
  have : (fr n0 us0 l0).tmps[d]? = some v := by
    show (tab us0 l0 n0 0).toArray[d]? = _
    rw [List.getElem?_toArray, tab_get _ _ _ _ _ hd, Nat.zero_add, h5]
  simp only [yielded, List.getElem?_toArray, h2, Option.bind_some, h3, this]
  cases v <;> rfl
theorem wtF {o oj : Oper} {opsl : List Oper} {j d : Nat} {want b r : Bool} (h1 : o.guard = some (j, want)) (h2 : nthO opsl j = some oj) (h3 : oj.dst = some d)
    (h4 : evO n0 l0 (.tmp d) = some (.bool b)) (h5 : (b == want) = r) : Region.wanted o (yielded opsl.toArray (fr n0 us0 l0).tmps) = r := by
  subst h5
  have e := yieldedF (us0 := us0) h2 h3 h4
  simp only [Region.wanted, h1, e, asB]
  cases b <;> cases want <;> rfl
theorem wuF {o oj : Oper} {opsl : List Oper} {j d : Nat} {want : Bool} (h1 : o.guard = some (j, want)) (h2 : nthO opsl j = some oj) (h3 : oj.dst = some d)
    (h4 : evO n0 l0 (.tmp d) = some undef) : Region.wanted o (yielded opsl.toArray (fr n0 us0 l0).tmps) = false := by
  have e := yieldedF (us0 := us0) h2 h3 h4
  simp [Region.wanted, h1, e, undef, asB]
theorem ag {x y : Addr} (h : x = y) : some (Value.pointer (some x)) = some (.pointer (some y)) := by rw [h]
/-! ### one operation -/
theorem sv {k : Tmp} {op : Op} {t' : TypeId} {p : String} {af : Array Edge} {v : Value} (hr : (execOp (fr n0 us0 l0).eval ⟨some k, op, t', p, af, none⟩).run P w = .ok (.value v) w)
    (h : wpList P ops Q rest (fr n0 us0 ((k, v) :: l0)) w) : wpList P ops Q (⟨some k, op, t', p, af, none⟩ :: rest) (fr n0 us0 l0) w := st_val v (wn rfl) hr putF h
theorem sn {op : Op} {t' : TypeId} {p : String} {af : Array Edge} {v : Value} (hr : (execOp (fr n0 us0 l0).eval ⟨none, op, t', p, af, none⟩).run P w = .ok (.value v) w)
    (h : wpList P ops Q rest (fr n0 us0 l0) w) : wpList P ops Q (⟨none, op, t', p, af, none⟩ :: rest) (fr n0 us0 l0) w := st_val v (wn rfl) hr (f3 _ _) h
/-! ### in a region that draws and only reads -/
section
variable {Q : Act → Prop}
end

/-! ### operations that turn the world -/
section
variable {K : Act → World → Prop}
end

/-! ### plain operations -/
section
variable {dst : Option Tmp} {x y : Operand} {t ty t' : TypeId} {p : String} {af : Array Edge} {g : Option (Nat × Bool)} {k : IntKind} {m n : Int} {v : Value}
end

/-! ### control -/
/-! ### a region that draws, loud operations in it -/
section
variable {md : Region.Mode} {E : Nat → World → World → Prop} {F : World → Prop}
end
/-! ### the laws of XBase at such a frame -/
end
end Go.Kt
