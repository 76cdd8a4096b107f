import Derived.Test.YtijipkdbkgafkaaQl2
set_option linter.unusedSectionVars false
namespace Go.Proofs.Ytijipkdbkgafkaa.Con
open Go Go.RowKit Go.Kt
set_option linter.unusedSimpArgs false
set_option linter.unusedVariables false
set_option maxHeartbeats 1000000
structure Fl where
 nm : List UInt8
 bs : List UInt8
 sf : Nat
structure Dk where
 fs : List Fl
 off : Bool
 pw : Option (Nat × Int)
 room : Nat
def lookF : List Fl -> List UInt8 -> Option Fl
 | [], _ => none
 | g :: r, s => if g.nm = s then some g else lookF r s
def putF (f : Fl) : List Fl -> List Fl
 | [] => [f]
 | g :: r => if f.nm < g.nm then f :: g :: r else if g.nm = f.nm then f :: r else g :: putF f r
def dropF (s : List UInt8) : List Fl -> List Fl
 | [] => []
 | g :: r => if g.nm = s then dropF s r else g :: dropF s r
def sumF : List Fl -> Nat
 | [] => 0
 | g :: r => g.bs.length + sumF r
abbrev Rise (l : List Fl) : Prop := l.Pairwise fun f g => f.nm < g.nm
theorem lt_of_not {a s : List UInt8} (h1 : ¬ a < s) (h2 : a ≠ s) : s < a := by
 rcases Decidable.em (s < a) with h | h
 · exact h
 · exact absurd (List.le_antisymm (List.not_lt.1 h) (List.not_lt.1 h1)) h2
theorem lookF_mem {s : List UInt8} : ∀ {l : List Fl} {f : Fl}, lookF l s = some f -> f ∈ l /\ f.nm = s
 | g :: r, f, h => by
  unfold lookF at h
  split at h
  · rename_i hg
    injection h with h
    subst h
    exact ⟨.head _, hg⟩
  · obtain ⟨h1, h2⟩ := lookF_mem h
    exact ⟨.tail _ h1, h2⟩
theorem lookF_none {s : List UInt8} : ∀ {l : List Fl}, lookF l s = none ↔ ∀ f, f ∈ l -> f.nm ≠ s
 | [] => by simp [lookF]
 | g :: r => by
  unfold lookF
  split
  · rename_i hg
    simp [hg]
  · rename_i hg
    rw [lookF_none]
    simp [hg]
theorem Rise.lookF {l : List Fl} (h : Rise l) {f : Fl} (hf : f ∈ l) : lookF l f.nm = some f := by
 induction l with
 | nil => cases hf
 | cons g r ih =>
  obtain ⟨h1, h2⟩ := List.pairwise_cons.1 h
  unfold Con.lookF
  rcases List.mem_cons.1 hf with rfl | hf
  · rw [if_pos rfl]
  · rw [if_neg fun e => by have := h1 f hf; rw [e] at this; exact absurd this (List.lt_irrefl _)]
    exact ih h2 hf
theorem putF_mem (f g : Fl) : ∀ {l : List Fl}, g ∈ putF f l -> g = f ∨ (g ∈ l)
 | [], h => by simpa [putF] using h
 | a :: r, h => by
  unfold putF at h
  split at h
  · rcases List.mem_cons.1 h with h | h
    · exact .inl h
    · exact .inr h
  · split at h
    · rcases List.mem_cons.1 h with h | h
      · exact .inl h
      · exact .inr (.tail _ h)
    · rcases List.mem_cons.1 h with h | h
      · exact .inr (by rw [h]; exact .head _)
      · rcases putF_mem f g h with h | h
        · exact .inl h
        · exact .inr (.tail _ h)
theorem putF_rise (f : Fl) : ∀ {l : List Fl}, Rise l -> Rise (putF f l)
 | [], _ => by simp [putF, Rise]
 | a :: r, h => by
  obtain ⟨h1, h2⟩ := List.pairwise_cons.1 h
  unfold putF
  split
  · rename_i hf
    exact List.pairwise_cons.2 ⟨fun b hb => by
     rcases List.mem_cons.1 hb with rfl | hb
     · exact hf
     · exact List.lt_trans hf (h1 b hb), h⟩
  · rename_i hf
    split
    · rename_i he
      exact List.pairwise_cons.2 ⟨fun b hb => by rw [<- he]; exact h1 b hb, h2⟩
    · rename_i he
      refine List.pairwise_cons.2 ⟨fun b hb => ?_, putF_rise f h2⟩
      rcases putF_mem f b hb with rfl | hb
      · exact lt_of_not hf fun e => he e.symm
      · exact h1 b hb
theorem putF_look (f : Fl) (s : List UInt8) : ∀ {l : List Fl}, Rise l -> lookF (putF f l) s = if s = f.nm then some f else lookF l s
 | [], _ => by
  unfold putF lookF lookF
  by_cases h : s = f.nm
  · rw [if_pos h, if_pos h.symm]
  · rw [if_neg h, if_neg (Ne.symm h)]
 | a :: r, h => by
  obtain ⟨h1, h2⟩ := List.pairwise_cons.1 h
  unfold putF
  split
  · by_cases hs : s = f.nm
    · rw [if_pos hs, lookF, if_pos hs.symm]
    · rw [if_neg hs, lookF, if_neg (Ne.symm hs)]
  · rename_i hf
    split
    · rename_i he
      by_cases hs : s = f.nm
      · rw [if_pos hs, lookF, if_pos hs.symm]
      · rw [if_neg hs, lookF, if_neg (Ne.symm hs), lookF, if_neg (fun e => hs (by rw [<- e, he]))]
    · rename_i he
      rw [lookF, lookF, putF_look f s h2]
      by_cases hs : s = f.nm
      · rw [if_neg (fun e => he (e.trans hs)), if_pos hs, if_pos hs]
      · rw [if_neg hs, if_neg hs]
theorem dropF_look (n s : List UInt8) : ∀ {l : List Fl}, lookF (dropF n l) s = if s = n then none else lookF l s
 | [] => by simp [dropF, lookF]
 | a :: r => by
  unfold dropF
  split
  · rename_i ha
    rw [dropF_look n s]
    by_cases hs : s = n
    · rw [if_pos hs, if_pos hs]
    · rw [if_neg hs, if_neg hs, lookF, if_neg fun e => hs (e.symm.trans ha)]
  · rename_i ha
    rw [lookF, lookF, dropF_look n s]
    by_cases hs : s = n
    · rw [if_pos hs, if_pos hs, if_neg fun e => ha (e.trans hs)]
    · rw [if_neg hs, if_neg hs]
theorem dropF_sub (n : List UInt8) : ∀ l : List Fl, (dropF n l).Sublist l
 | [] => .slnil
 | a :: r => by
  unfold dropF
  split
  · exact (dropF_sub n r).cons _
  · exact (dropF_sub n r).cons_cons _
theorem dropF_rise (n : List UInt8) {l : List Fl} (h : Rise l) : Rise (dropF n l) := h.sublist (dropF_sub n l)
theorem sumF_sub {l m : List Fl} (h : l.Sublist m) : sumF l <= sumF m := by
 induction h with
 | slnil => exact Nat.le_refl _
 | cons a _ ih => rw [sumF]; omega
 | cons_cons a _ ih => rw [sumF, sumF]; omega
theorem sumF_mem {f : Fl} : ∀ {l : List Fl}, f ∈ l -> f.bs.length <= sumF l
 | a :: r, h => by
  rw [sumF]
  rcases List.mem_cons.1 h with rfl | h
  · omega
  · have := sumF_mem h
    omega
theorem putF_sum (f : Fl) : ∀ {l : List Fl}, Rise l -> sumF (putF f l) + ((lookF l f.nm).map (·.bs.length)).getD 0 = sumF l + f.bs.length
 | [], _ => by simp [putF, sumF, lookF]
 | a :: r, h => by
  obtain ⟨h1, h2⟩ := List.pairwise_cons.1 h
  unfold putF
  split
  · rename_i hf
    have hn : lookF (a :: r) f.nm = none := lookF_none.2 fun g hg e => by
     rcases List.mem_cons.1 hg with rfl | hg
     · rw [e] at hf; exact absurd hf (List.lt_irrefl _)
     · have := List.lt_trans hf (h1 g hg)
       rw [e] at this; exact absurd this (List.lt_irrefl _)
    rw [hn, sumF]
    simp only [Option.map_none, Option.getD_none]
    omega
  · rename_i hf
    split
    · rename_i he
      rw [lookF, if_pos he, sumF, sumF]
      simp only [Option.map_some, Option.getD_some]
      omega
    · rename_i he
      rw [lookF, if_neg he, sumF, sumF]
      have := putF_sum f h2
      omega
theorem putF_len (f : Fl) : ∀ {l : List Fl}, Rise l -> (putF f l).length = if lookF l f.nm = none then l.length + 1 else l.length
 | [], _ => by simp [putF, lookF]
 | a :: r, h => by
  obtain ⟨h1, h2⟩ := List.pairwise_cons.1 h
  unfold putF
  split
  · rename_i hf
    rw [if_pos (lookF_none.2 fun g hg e => by
     rcases List.mem_cons.1 hg with rfl | hg
     · rw [e] at hf; exact absurd hf (List.lt_irrefl _)
     · have := List.lt_trans hf (h1 g hg)
       rw [e] at this; exact absurd this (List.lt_irrefl _))]
    rfl
  · split
    · rename_i he
      rw [if_neg (by rw [lookF, if_pos he]; simp)]
      rfl
    · rename_i he
      rw [lookF, if_neg he, List.length_cons, putF_len f h2]
      split <;> rfl
theorem dropF_sum {n : List UInt8} {f : Fl} : ∀ {l : List Fl}, Rise l -> lookF l n = some f -> sumF (dropF n l) + f.bs.length = sumF l
 | a :: r, h, hf => by
  obtain ⟨h1, h2⟩ := List.pairwise_cons.1 h
  unfold lookF at hf
  unfold dropF
  split at hf
  · rename_i ha
    injection hf with hf
    subst hf
    rw [if_pos ha, sumF]
    have hd : ∀ {m : List Fl}, (∀ g, g ∈ m -> g.nm ≠ n) -> dropF n m = m := fun {m} => by
     induction m with
     | nil => exact fun _ => rfl
     | cons b m ih =>
      intro hm
      rw [dropF, if_neg (hm b (.head _)), ih fun g hg => hm g (.tail _ hg)]
    rw [hd fun g hg e => by have := h1 g hg; rw [ha, e] at this; exact absurd this (List.lt_irrefl _)]
    omega
  · rename_i ha
    rw [if_neg ha, sumF, sumF]
    have := dropF_sum h2 hf
    omega
theorem dropF_len {n : List UInt8} {f : Fl} : ∀ {l : List Fl}, lookF l n = some f -> (dropF n l).length + 1 <= l.length
 | a :: r, hf => by
  unfold lookF at hf
  unfold dropF
  split at hf
  · rename_i ha
    rw [if_pos ha, List.length_cons]
    have := (dropF_sub n r).length_le
    omega
  · rename_i ha
    rw [if_neg ha, List.length_cons, List.length_cons]
    have := dropF_len hf
    omega
def nameK (s : List UInt8) : Bool := (!(decide (s = []))) && decide (s.length <= 32)
def modI (n : Int) (k : Nat) : Nat := (n.tmod k + k).tmod k |>.toNat
def cutP (D : Dk) : Option Int × Dk := match D.pw with
 | none => (none, D)
 | some (0, p) => (some p, { D with pw := none, off := true })
 | some (a + 1, p) => (none, { D with pw := some (a, p) })
def setFs (D : Dk) (l : List Fl) : Dk := { D with fs := l }
def wholeD (D : Dk) (op : List Fl -> List Fl) : Int × Dk := match cutP D with
 | (none, E) => (0, setFs E (op E.fs))
 | (some p, E) => (50, if p.tmod 2 ≠ 0 then setFs E (op E.fs) else E)
def findE (D : Dk) (s : List UInt8) : Int := if D.off then 50 else if lookF D.fs s = none then 51 else 0
def fl0 (s : List UInt8) : Fl := ⟨s, [], 0⟩
def getF (D : Dk) (s : List UInt8) : Fl := (lookF D.fs s).getD (fl0 s)
def appD (D : Dk) (s : List UInt8) (ls : List (List UInt8)) : Int × Dk :=
 if D.off then (50, D) else if nameK s = false then (1, D) else if D.room < sumF D.fs + ls.flatten.length then (52, D)
 else match cutP D with
  | (none, E) => (0, setFs E (putF { getF D s with bs := (getF D s).bs ++ ls.flatten } E.fs))
  | (some p, E) => (50, setFs E (putF { getF D s with bs := (getF D s).bs ++ ls.flatten.take (modI p (ls.flatten.length + 1)) } E.fs))
def syncD (D : Dk) (s : List UInt8) : Int × Dk := if findE D s ≠ 0 then (findE D s, D) else match cutP D with
 | (none, E) => (0, setFs E (putF { getF D s with sf := (getF D s).bs.length } E.fs))
 | (some _, E) => (50, E)
def cutD (D : Dk) (s : List UInt8) (n : Int) : Int × Dk := if findE D s ≠ 0 then (findE D s, D) else if n < 0 ∨ ((getF D s).bs.length : Int) < n then (1, D)
 else wholeD D fun l => putF ⟨s, (getF D s).bs.take n.toNat, min n.toNat (getF D s).sf⟩ l
def renD (D : Dk) (a b : List UInt8) : Int × Dk := if findE D a ≠ 0 then (findE D a, D) else if nameK b = false ∨ a = b then (1, D)
 else wholeD D fun l => putF { getF D a with nm := b } (dropF a l)
def remD (D : Dk) (s : List UInt8) : Int × Dk := if findE D s ≠ 0 then (findE D s, D) else wholeD D fun l => dropF s l
def readD (D : Dk) (s : List UInt8) : List UInt8 := if findE D s ≠ 0 then [] else (getF D s).bs
def armD (D : Dk) (n p : Int) : Dk := { D with pw := if 0 <= n then some (n.toNat, p) else none }
def bootF (keep : List Int) (f : Fl) : Fl := let k := f.sf + (match keep with
  | [] => 0
  | x :: _ => modI x (f.bs.length - f.sf + 1))
 ⟨f.nm, f.bs.take k, k⟩
def bootL : List Int -> List Fl -> List Fl
 | _, [] => []
 | ks, f :: r => bootF ks f :: bootL ks.tail r
def bootD (D : Dk) (keep : List Int) : Dk := ⟨bootL keep D.fs, false, none, D.room⟩
structure Inv (D : Dk) : Prop where
 rise : Rise D.fs
 safe : ∀ f, f ∈ D.fs -> f.sf <= f.bs.length
 nam : ∀ f, f ∈ D.fs -> nameK f.nm = true
 sum : sumF D.fs <= D.room
 big : D.room <= 9223372036854775807
theorem modI_lt (n : Int) {k : Nat} (hk : 0 < k) : modI n k < k := by
 unfold modI
 have h1 : (0 : Int) <= n.tmod k + k := by
  have := Int.lt_tmod_of_pos n (b := (k : Int)) (by omega)
  omega
 have h2 := Int.tmod_lt_of_pos (n.tmod k + k) (b := (k : Int)) (by omega)
 have h3 := Int.tmod_nonneg (k : Int) h1
 omega
theorem modI_eq (n : Int) {k : Nat} (hk : 0 < k) : (modI n k : Int) = (n.tmod k + k).tmod k := by
 unfold modI
 have h1 : (0 : Int) <= n.tmod k + k := by
  have := Int.lt_tmod_of_pos n (b := (k : Int)) (by omega)
  omega
 exact Int.toNat_of_nonneg (Int.tmod_nonneg (k : Int) h1)
theorem cutP_fs (D : Dk) : (cutP D).2.fs = D.fs /\ (cutP D).2.room = D.room := by
 unfold cutP
 split <;> exact ⟨rfl, rfl⟩
theorem Inv.cutP {D : Dk} (h : Inv D) : Inv (cutP D).2 := by
 obtain ⟨e1, e2⟩ := cutP_fs D
 exact ⟨by rw [e1]; exact h.rise, by rw [e1]; exact h.safe, by rw [e1]; exact h.nam, by rw [e1, e2]; exact h.sum, by rw [e2]; exact h.big⟩
theorem getF_some {D : Dk} {s : List UInt8} {f : Fl} (h : lookF D.fs s = some f) : getF D s = f := by rw [getF, h]; rfl
theorem getF_nm (D : Dk) (s : List UInt8) : (getF D s).nm = s := by
 unfold getF
 cases h : lookF D.fs s with
 | none => rfl
 | some f => exact (lookF_mem h).2
theorem Inv.put {D : Dk} (h : Inv D) {f : Fl} (h1 : f.sf <= f.bs.length) (h2 : nameK f.nm = true) (h3 : sumF (putF f D.fs) <= D.room) : Inv (setFs D (putF f D.fs)) :=
 ⟨putF_rise f h.rise, fun g hg => (putF_mem f g hg).elim (fun e => by rw [e]; exact h1) (h.safe g), fun g hg => (putF_mem f g hg).elim (fun e => by rw [e]; exact h2) (h.nam g), h3, h.big⟩
theorem Inv.drop {D : Dk} (h : Inv D) (s : List UInt8) : Inv (setFs D (dropF s D.fs)) :=
 ⟨dropF_rise s h.rise, fun g hg => h.safe g ((dropF_sub s D.fs).subset hg), fun g hg => h.nam g ((dropF_sub s D.fs).subset hg), Nat.le_trans (sumF_sub (dropF_sub s D.fs)) h.sum, h.big⟩
end Go.Proofs.Ytijipkdbkgafkaa.Con
namespace Go.Kt
open Go Go.RowKit Go.MapKept
set_option linter.unusedSimpArgs false
set_option linter.unusedVariables false
structure KeyV {κ : Type} (d : TypeDesc) (kv : κ -> Value) (g : κ -> Prop) : Prop where
 is : ∀ k, IsKey d (kv k)
 inj : ∀ {k l}, kv k = kv l -> k = l
structure MapV {κ : Type} (kv : κ -> Value) (g : κ -> Prop) (w : World) (r : Nat) (m : κ -> Option Value) (n : Nat) : Prop where
 mem : ∃ es clock, w.heap[r]? = some (.map es clock) /\ Stamped es clock /\ es.size <= n /\ (∀ x, x ∈ es.toList -> ∃ k, x.key = kv k /\ g k) /\
  ∀ k v, m k = some v ↔ ∃ x, x ∈ es.toList /\ x.key = kv k /\ x.val = v
section
variable {κ : Type} {d : TypeDesc} {kv : κ -> Value} {g : κ -> Prop} {P : Program} {w w' : World} {r n : Nat} {m : κ -> Option Value} {mty kt et : TypeId}
theorem MapV.keep (h : MapV kv g w r m n) (hk : w'.heap[r]? = w.heap[r]?) : MapV kv g w' r m n := by
 obtain ⟨es, c, h1, h2⟩ := h.mem
 exact ⟨es, c, hk.trans h1, h2⟩
theorem MapV.le (h : MapV kv g w r m n) {n' : Nat} (hn : n <= n') : MapV kv g w r m n' := by
 obtain ⟨es, c, h1, h2, h3, h4⟩ := h.mem
 exact ⟨es, c, h1, h2, Nat.le_trans h3 hn, h4⟩
theorem MapV.lt (h : MapV kv g w r m n) : r < w.heap.size := by
 obtain ⟨es, c, h1, h2⟩ := h.mem
 exact (Array.getElem?_eq_some_iff.1 h1).1
theorem MapV.only (h : MapV kv g w r m n) {bs : List Nat} (hO : Only bs w w') (hn : r ∉ bs) : MapV kv g w' r m n := h.keep (hO.block r h.lt hn)
theorem MapV.ext (h : MapV kv g w r m n) {m' : κ -> Option Value} (he : ∀ k, m' k = m k) : MapV kv g w r m' n := by
 obtain ⟨es, c, h1, h2, h3, h4, h5⟩ := h.mem
 exact ⟨es, c, h1, h2, h3, h4, fun k v => by rw [he, h5]⟩
theorem MapV.ok (h : MapV kv g w r m n) (K : KeyV d kv g) {k : κ} (hk : m k ≠ none) : g k := by
 obtain ⟨es, c, h1, h2, h3, h4, h5⟩ := h.mem
 cases hm : m k with
 | none => exact absurd hm hk
 | some v =>
  obtain ⟨x, hx, e1, _⟩ := (h5 k v).1 hm
  obtain ⟨l, e2, hl⟩ := h4 x hx
  rwa [K.inj (e1.symm.trans e2)]
theorem MapV.make (w : World) : (Instr.makeMap mty none).run P w = .ok (.map (some w.heap.size)) (w.alloc (.map #[] 0)) /\ MapV kv g (w.alloc (.map #[] 0)) w.heap.size (fun _ => none) 0 /\ Only [] w (w.alloc (.map #[] 0)) :=
 ⟨rfl, ⟨#[], 0, heap_alloc_new w _, stamped_empty 0, by simp, by simp, by simp⟩, Only.alloc _ _⟩
theorem keysV (K : KeyV d kv g) {es : Array MapEntry} (h : ∀ x, x ∈ es.toList -> ∃ k, x.key = kv k /\ g k) : ∀ x ∈ es.toList, IsKey d x.key := fun x hx => by
 obtain ⟨k, e, _⟩ := h x hx
 rw [e]; exact K.is k
theorem MapV.lookup (K : KeyV d kv g) (hm : P.underlying mty = some (.map kt et)) (hd : P.underlying kt = some d) {z : Value} (hz : ∀ w, (zeroValue et).run P w = .ok z w) (h : MapV kv g w r m n) (k : κ) :
  (Instr.lookup mty (.map (some r)) (kv k) false).run P w = .ok ((m k).getD z) w := by
 obtain ⟨es, c, h1, h0, hn, h2, h4⟩ := h.mem
 rcases findNow_spec (K.is k) es.toList 0 (keysV K h2) with ⟨g1, g2⟩ | ⟨j, e, g1, g2, g3⟩
 · have hn : m k = none := by
    cases hmk : m k with
    | none => rfl
    | some v =>
     obtain ⟨x, hx, hk, _⟩ := (h4 k v).1 hmk
     exact absurd hk (g2 x hx)
   simp [Instr.lookup, run_underlying hm, MapKept.run_getObj_map h1, MapKept.run_checkKey hd (K.is k), MapKept.run_findKey hd g1, Result.andThen, hz, hn]
 · have he := List.mem_of_getElem? g2
   have hmk : m k = some e.val := (h4 k e.val).2 ⟨e, he, g3, rfl⟩
   simp [Instr.lookup, run_underlying hm, MapKept.run_getObj_map h1, MapKept.run_checkKey hd (K.is k), MapKept.run_findKey hd g1, Result.andThen, hmk]
variable [DecidableEq κ]
theorem MapV.update (K : KeyV d kv g) (hm : P.underlying mty = some (.map kt et)) (hd : P.underlying kt = some d) (h : MapV kv g w r m n) {k : κ} (hg : g k) (v : Value) :
  ∃ w', (Instr.mapUpdate mty (.map (some r)) (kv k) v).run P w = .ok () w' /\ MapV kv g w' r (fun x => if x = k then some v else m x) (if m k = none then n + 1 else n) /\ Only [r] w w' := by
 obtain ⟨es, c, h1, h0, hn, h2, h4⟩ := h.mem
 have fin : ∀ {es' : Array MapEntry} {c' n' : Nat}, Stamped es' c' -> es'.size <= n' -> (∀ x, x ∈ es'.toList -> ∃ k, x.key = kv k /\ g k) ->
   (∀ k' v', (∃ x, x ∈ es'.toList /\ x.key = kv k' /\ x.val = v') ↔ (k' = k /\ v' = v) ∨ (k' ≠ k /\ m k' = some v')) -> ∀ w', w'.heap[r]? = some (.map es' c') -> MapV kv g w' r (fun x => if x = k then some v else m x) n' := by
  intro es' c' n' e0 en e1 e3 w' hw
  refine ⟨es', c', hw, e0, en, e1, fun k' v' => ?_⟩
  rw [e3]
  by_cases hkk : k' = k
  · simp only [hkk, if_true, Option.some.injEq, true_and, ne_eq, not_true_eq_false, false_and, or_false]
    exact ⟨fun h => h.symm, fun h => h.symm⟩
  · simp only [if_neg hkk, hkk, false_and, false_or, ne_eq, not_false_eq_true, true_and, if_false]
 rcases findNow_spec (K.is k) es.toList 0 (keysV K h2) with ⟨g1, g2⟩ | ⟨j, e, g1, g2, g3⟩
 · have hmk : m k = none := by
    cases hq : m k with
    | none => rfl
    | some v =>
     obtain ⟨x, hx, hk, _⟩ := (h4 k v).1 hq
     exact absurd hk (g2 x hx)
   rw [if_pos hmk]
   refine ⟨{ w with heap := w.heap.setIfInBounds r (.map (es.push { key := kv k, val := v, born := c }) (c + 1)) }, ?_, fin (stamped_push h0 g2) (by simp; omega) ?_ ?_ _ (heap_set h1).1, only_set h1⟩
   · simp [Instr.mapUpdate, run_underlying hm, MapKept.run_getObj_map h1, MapKept.run_checkKey hd (K.is k), MapKept.run_findKey hd g1, MapKept.run_setObj_map _ h1, Result.andThen]
   · intro x hx
     simp only [Array.toList_push, List.mem_append, List.mem_singleton] at hx
     rcases hx with hx | rfl
     · exact h2 x hx
     · exact ⟨k, rfl, hg⟩
   · intro k' v'
     simp only [Array.toList_push, List.mem_append, List.mem_singleton]
     constructor
     · rintro ⟨x, hx | rfl, e1, e2⟩
       · exact .inr ⟨fun h => g2 x hx (by rw [e1, h]), (h4 k' v').2 ⟨x, hx, e1, e2⟩⟩
       · exact .inl ⟨(K.inj e1).symm, e2.symm⟩
     · rintro (⟨rfl, rfl⟩ | ⟨hn, h⟩)
       · exact ⟨_, .inr rfl, rfl, rfl⟩
       · obtain ⟨x, hx, e1, e2⟩ := (h4 k' v').1 h
         exact ⟨x, .inl hx, e1, e2⟩
 · have hj : es[j]? = some e := by simpa using g2
   have hjl : j < es.toList.length := (List.getElem?_eq_some_iff.1 g2).1
   have hmk : m k ≠ none := by rw [(h4 k e.val).2 ⟨e, List.mem_of_getElem? g2, g3, rfl⟩]; simp
   have h3 := ((stamped_iff _ _).1 h0).2.2
   rw [if_neg hmk]
   refine ⟨{ w with heap := w.heap.setIfInBounds r (.map (es.modify j fun e => { e with key := kv k, val := v }) c) }, ?_,
    fin (stamped_modify h0 j (fun e => { e with key := kv k, val := v }) (fun _ _ => rfl) (fun e' _ he => by rw [hj] at he; injection he with he; rw [<- he]; exact g3.symm)) (by simpa using hn) ?_ ?_ _ (heap_set h1).1, only_set h1⟩
   · simp [Instr.mapUpdate, run_underlying hm, MapKept.run_getObj_map h1, MapKept.run_checkKey hd (K.is k), MapKept.run_findKey hd g1, hj, g3, MapKept.run_keyThatStays (K.is k), MapKept.run_setObj_map _ h1, Result.andThen]
   all_goals rw [Array.toList_modify, modify_set g2]
   · intro x hx
     rcases List.mem_or_eq_of_mem_set hx with hx | rfl
     · exact h2 x hx
     · exact ⟨k, rfl, hg⟩
   · intro k' v'
     constructor
     · rintro ⟨x, hx, e1, e2⟩
       obtain ⟨i, hi⟩ := List.getElem?_of_mem hx
       rw [List.getElem?_set] at hi
       split at hi
       · injection hi with hi
         rw [<- hi] at e1 e2
         exact .inl ⟨(K.inj e1).symm, e2.symm⟩
       · rename_i hij
         have hxm := List.mem_of_getElem? hi
         by_cases hkk : k' = k
         · have hil := (List.getElem?_eq_some_iff.1 hi).1
           have hne := List.pairwise_iff_getElem.1 h3
           have ex := (List.getElem?_eq_some_iff.1 hi).2
           have ee := (List.getElem?_eq_some_iff.1 g2).2
           exfalso
           rcases Nat.lt_or_gt_of_ne hij with hlt | hgt
           · exact hne j i hjl hil hlt (by rw [ee, ex, g3, e1, hkk])
           · exact hne i j hil hjl hgt (by rw [ee, ex, g3, e1, hkk])
         · exact .inr ⟨hkk, (h4 k' v').2 ⟨x, hxm, e1, e2⟩⟩
     · rintro (⟨rfl, rfl⟩ | ⟨hn, h⟩)
       · exact ⟨_, List.mem_set hjl _, rfl, rfl⟩
       · obtain ⟨x, hx, e1, e2⟩ := (h4 k' v').1 h
         obtain ⟨i, hi⟩ := List.getElem?_of_mem hx
         refine ⟨x, List.mem_of_getElem? (i := i) ?_, e1, e2⟩
         rw [List.getElem?_set_ne]
         · exact hi
         · rintro rfl
           rw [g2] at hi
           injection hi with hi
           rw [<- hi, g3] at e1
           exact hn (K.inj e1).symm
theorem MapV.delete (K : KeyV d kv g) (hm : P.underlying mty = some (.map kt et)) (hd : P.underlying kt = some d) (h : MapV kv g w r m n) (k : κ) (ty : TypeId) :
  ∃ w', (Builtin.delete_ #[mty, kt] ty #[.map (some r), kv k]).run P w = .ok (.tuple #[]) w' /\ MapV kv g w' r (fun x => if x = k then none else m x) (if m k = none then n else n - 1) /\ Only [r] w w' := by
 obtain ⟨es, c, h1, h0, hn, h2, h4⟩ := h.mem
 have h3 := ((stamped_iff _ _).1 h0).2.2
 rcases findNow_spec (K.is k) es.toList 0 (keysV K h2) with ⟨g1, g2⟩ | ⟨j, e, g1, g2, g3⟩
 · have hmk : m k = none := by
    cases hq : m k with
    | none => rfl
    | some v =>
     obtain ⟨x, hx, hk, _⟩ := (h4 k v).1 hq
     exact absurd hk (g2 x hx)
   rw [if_pos hmk]
   refine ⟨{ w with heap := w.heap.setIfInBounds r (.map es c) }, ?_, ⟨_, _, (heap_set h1).1, h0, hn, h2, ?_⟩, only_set h1⟩
   · simp [Builtin.delete_, run_underlying hm, MapKept.run_getObj_map h1, MapKept.run_checkKey hd (K.is k), MapKept.run_findKey hd g1, MapKept.run_setObj_map _ h1, Result.andThen]
   · intro k' v'
     by_cases hk : k' = k
     · subst hk
       simp only [if_true]
       constructor
       · intro h; cases h
       · rintro ⟨x, hx, e1, _⟩
         exact absurd e1 (g2 x hx)
     · rw [if_neg hk, h4]
 · have hjl : j < es.toList.length := (List.getElem?_eq_some_iff.1 g2).1
   have hje := (List.getElem?_eq_some_iff.1 g2).2
   have hes : (es.eraseIdxIfInBounds j).toList = es.toList.eraseIdx j := by
    unfold Array.eraseIdxIfInBounds
    rw [dif_pos (by simpa using hjl), Array.toList_eraseIdx]
   have hmk : m k ≠ none := by rw [(h4 k e.val).2 ⟨e, List.mem_of_getElem? g2, g3, rfl⟩]; simp
   rw [if_neg hmk]
   have hsz : (es.eraseIdxIfInBounds j).size <= n - 1 := by
    rw [<- Array.length_toList, hes, List.length_eraseIdx_of_lt hjl]
    have : es.toList.length = es.size := Array.length_toList
    omega
   refine ⟨{ w with heap := w.heap.setIfInBounds r (.map (es.eraseIdxIfInBounds j) c) }, ?_, ⟨_, _, (heap_set h1).1, stamped_erase h0 j, hsz, ?_, ?_⟩, only_set h1⟩
   · simp [Builtin.delete_, run_underlying hm, MapKept.run_getObj_map h1, MapKept.run_checkKey hd (K.is k), MapKept.run_findKey hd g1, MapKept.run_setObj_map _ h1, Result.andThen]
   · rw [hes]
     exact fun x hx => h2 x ((List.eraseIdx_sublist _ _).subset hx)
   · intro k' v'
     rw [hes]
     have hne := List.pairwise_iff_getElem.1 h3
     by_cases hk : k' = k
     · subst hk
       simp only [if_true]
       constructor
       · intro h; cases h
       · rintro ⟨x, hx, e1, _⟩
         rw [List.mem_eraseIdx_iff_getElem] at hx
         obtain ⟨i, hi, hij, hxe⟩ := hx
         rcases Nat.lt_or_gt_of_ne hij with hlt | hgt
         · exact absurd (by rw [hje, hxe, e1, g3]) (hne i j hi hjl hlt)
         · exact absurd (by rw [hje, hxe, e1, g3]) (hne j i hjl hi hgt)
     · rw [if_neg hk, h4]
       constructor
       · rintro ⟨x, hx, e1, e2⟩
         refine ⟨x, ?_, e1, e2⟩
         rw [List.mem_eraseIdx_iff_getElem]
         obtain ⟨i, hi, hxe⟩ := List.getElem_of_mem hx
         refine ⟨i, hi, ?_, hxe⟩
         rintro rfl
         rw [hje] at hxe
         rw [<- hxe, g3] at e1
         exact hk (K.inj e1).symm
       · rintro ⟨x, hx, e1, e2⟩
         exact ⟨x, (List.eraseIdx_sublist _ _).subset hx, e1, e2⟩
end
abbrev kS (s : List UInt8) : Value := .string ⟨s.toArray⟩
abbrev gS (s : List UInt8) : Prop := s.length <= maxLen
theorem keyS : KeyV .string kS gS := ⟨fun _ => trivial, fun h => by simpa using h⟩
section
variable {P : Program} {w : World} {r n : Nat} {m : List UInt8 -> Option Value} {kt : TypeId}
open Go.WideElems (Fit rd rg rd_mk rg_of)
theorem MapV.owns (hk : P.underlying kt = some .string) (h : MapV kS gS w r m n) (hn : n <= maxLen) : ∃ D : DataW Nat, World.ownsMap w P kt (fun _ => some (.nil, [])) r n D /\ Go.Maps.size D <= n /\ (Go.strKeys D).Nodup /\ ∀ k, k ∈ Go.strKeys D ↔ (m k).isSome = true := by
 obtain ⟨es, c, h1, h0, hs, h2, h4⟩ := h.mem
 have hkey : ∀ x, x ∈ es.toList -> ∃ k, x.key = kS k /\ keyOf P kt x.key = some (.string k) := fun x hx => by
  obtain ⟨k, e, hg⟩ := h2 x hx
  refine ⟨k, e, ?_⟩
  rw [e]
  have hl : (⟨k.toArray⟩ : ByteArray).size <= maxLen := by
   show k.toArray.size <= maxLen
   simpa using hg
  simp [keyOf, hk, mapKey, kS, hl]
 have hrd : ∀ x, x ∈ es.toList -> ∃ k, x.key = kS k /\ rd P kt (H := Nat) (fun _ => some (.nil, [])) x = some (.string k, .nil) := fun x hx => by
  obtain ⟨k, e, h⟩ := hkey x hx
  exact ⟨k, e, by simp [rd, h]⟩
 have hp : (Go.strKeys (.map ((es.toList.map (rg P kt (H := Nat) fun _ => some (.nil, []))).foldr DataW.insert []))).Perm (es.toList.map fun x => Go.strOf (rg P kt (H := Nat) (fun _ => some (.nil, [])) x).1) := by
  have := (Go.WideShapes.sorted_perm (es.toList.map (rg P kt (H := Nat) fun _ => some (.nil, [])))).map fun p => Go.strOf p.1
  rw [List.map_map] at this
  exact this
 refine ⟨_, ⟨es, c, h1, ⟨Nat.le_trans hs hn, h0, fun x hx => ?_⟩, hs, rfl⟩, ?_, ?_, ?_⟩
 · obtain ⟨k, _, e⟩ := hrd x hx
   exact ⟨_, e⟩
 · rw [Go.Maps.size_eq, (Go.WideShapes.sorted_perm _).length_eq]
   simpa using hs
 · rw [hp.nodup_iff]
   refine List.pairwise_map.2 (((stamped_iff _ _).1 h0).2.2.imp_of_mem ?_)
   intro x y hx hy hxy he
   obtain ⟨k, e1, e2⟩ := hrd x hx
   obtain ⟨l, e3, e4⟩ := hrd y hy
   rw [rg_of e2, rg_of e4] at he
   simp only [Go.strOf] at he
   exact hxy (by rw [e1, e3, he])
 · intro k
   rw [hp.mem_iff, List.mem_map]
   constructor
   · rintro ⟨x, hx, e⟩
     obtain ⟨l, e1, e2⟩ := hrd x hx
     rw [rg_of e2] at e
     simp only [Go.strOf] at e
     subst e
     rw [(h4 l x.val).2 ⟨x, hx, e1, rfl⟩]; rfl
   · intro hs
     obtain ⟨v, hv⟩ := Option.isSome_iff_exists.1 hs
     obtain ⟨x, hx, e1, _⟩ := (h4 k v).1 hv
     obtain ⟨l, e2, e3⟩ := hrd x hx
     refine ⟨x, hx, ?_⟩
     rw [rg_of e3]
     exact keyS.inj (e2.symm.trans e1)
theorem sorted_is {L ss : List (List UInt8)} (hL : L.Pairwise (· < ·)) (hs : ss.Nodup) (he : ∀ k, k ∈ ss ↔ k ∈ L) : ss.mergeSort (fun x y => decide (x <= y)) = L := by
 have hp : ss.Perm L := (List.perm_ext_iff_of_nodup hs (hL.imp fun h e => by subst e; exact absurd h (List.lt_irrefl _))).2 he
 rw [Go.mergeSort_of_perm hp]
 refine List.mergeSort_of_pairwise (hL.imp fun h => ?_)
 simp only [decide_eq_true_eq]
 exact List.le_of_lt h
end
end Go.Kt
namespace Go.Proofs.Ytijipkdbkgafkaa.Con
open Go Go.RowKit Go.Kt Go.Kt.V Go.Proofs.Ytijipkdbkgafkaa.Vc
set_option linter.unusedSimpArgs false
set_option linter.unusedVariables false
set_option maxHeartbeats 1000000
def Pw (D : Dk) (armed : Bool) (acts part : Int) : Prop := match D.pw with
 | none => armed = false
 | some (a, p) => armed = true /\ acts = (a : Int) /\ part = p /\ a <= 9223372036854775807
abbrev dcs (off armed : Bool) (acts part room : Int) (r : Nat) : List Value := [.bool off, .bool armed, .int .i64 acts, .int .i64 part, .int .i64 room, .map (some r)]
abbrev Tb := List UInt8 -> Option (Nat × Sl)
structure RowB (w : World) (s : Sl) (bs : List UInt8) : Prop where
 sl : SliceF rByte 1 w (fun k => s.a = some ⟨k, 0, none⟩) s bs
 lt : ∀ g, s.a = some g -> ∃ b, g = ⟨b, 0, none⟩ /\ b < w.heap.size
 wr : s.c = s.n ∨ Own rByte 1 5 0 w (fun _ => False) s bs
theorem RowB.of {w : World} {s : Sl} {bs : List UInt8} {B : Nat} (h : Own rByte 1 5 B w (fun _ => False) s bs) : RowB w s bs := by
 refine ⟨SliceF.mono rByte_ok (h.slice rByte_ok) fun k hk => hk.elim False.elim fun h => h.2, fun g hg => ?_, .inr (h.low (Nat.zero_le _))⟩
 rcases h with ⟨rfl, rfl⟩ | ⟨b, css, tail, h1, h2, h3, _⟩
 · cases hg
 · rw [h1] at hg
   injection hg with hg
   exact ⟨b, hg.symm, h3.lt⟩
theorem RowB.keep {w w' : World} {s : Sl} {bs : List UInt8} (h : RowB w s bs) (hk : ∀ x, s.a = some ⟨x, 0, none⟩ -> x < w.heap.size -> w'.heap[x]? = w.heap[x]?) : RowB w' s bs := by
 refine ⟨SliceF.keep rByte_ok h.sl (by decide) hk, fun g hg => ?_, h.wr.imp id fun ho => ho.keep rByte_ok fun x hx hlt => hk x (hx.elim False.elim fun h => h.2) hlt⟩
 obtain ⟨b, rfl, hb⟩ := h.lt g hg
 refine ⟨b, rfl, ?_⟩
 have := hk b hg hb
 rw [Array.getElem?_eq_getElem hb] at this
 exact (Array.getElem?_eq_some_iff.1 this).1
theorem RowB.blk {w : World} {s : Sl} {bs : List UInt8} (h : RowB w s bs) {x : Nat} (hx : s.a = some ⟨x, 0, none⟩) : x < w.heap.size := by
 obtain ⟨b, e, hb⟩ := h.lt _ hx
 injection e with e
 omega
theorem RowB.app {w : World} {s y : Sl} {bs ys : List UInt8} {F : Nat -> Prop} {ty : TypeId} (h : RowB w s bs) (hy : SliceF rByte 1 w F y ys) (hF : ∀ k, F k -> s.a ≠ some ⟨k, 0, none⟩) (hm : bs.length + ys.length <= 140737488355328) :
  ∃ s' w', (Builtin.append_ #[33, 33] ty #[s.v, y.v]).run Try.prog w = .ok s'.v w' /\ RowB w' s' (bs ++ ys) /\ OnlyP (fun x => s.a = some ⟨x, 0, none⟩) w w' /\ (s'.a = s.a ∨ s'.a = some ⟨w.heap.size, 0, none⟩) := by
 rcases h.wr with hf | ho
 · by_cases h0 : y.n = 0
   · have hx : ys = [] := List.eq_nil_of_length_eq_zero (by have := hy.len; omega)
     subst hx
     refine ⟨s, w, ?_, by rw [List.append_nil]; exact h, OnlyP.refl _ _, .inl rfl⟩
     have ht : Try.prog.underlying 33 = some (.slice 5) := by kernel_rfl
     have hi : Try.prog.info? 5 = some Try.t5 := by kernel_rfl
     have hnil := h.sl.nil0
     obtain ⟨ya, yn, yc⟩ := y
     obtain ⟨sa, sn, sc⟩ := s
     dsimp only at h0 hf hnil
     subst h0 hf
     cases sa with
     | none =>
      have := hnil rfl
      subst this
      cases ya <;> simp [Builtin.append_, run_underlying ht, sizeOf, typeInfo, hi, Builtin.lenOf, Builtin.firstCells, loadCells, loadCellsFrom, storeCells]
     | some g => cases ya <;> simp [Builtin.append_, run_underlying ht, sizeOf, typeInfo, hi, Builtin.lenOf, Builtin.firstCells, loadCells, loadCellsFrom, storeCells]
   · obtain ⟨s', w', k1, k2, k3, k4⟩ := app_grow (P := Try.prog) (t := 33) (ty := ty) (e := 5) (i := Try.t5) (bytes := 1) (size := 1) (r := rByte) (by kernel_rfl) (by kernel_rfl) rfl rfl rfl rfl rByte_ok (SliceF.mono rByte_ok h.sl (G := fun _ => True) fun _ _ => trivial) (SliceF.mono rByte_ok hy fun _ _ => trivial) (by omega) (by omega) (by decide)
     refine ⟨s', w', k1, RowB.of (B := 0) ?_, k3.p0, .inr k4⟩
     rcases k2 with ⟨e1, e2⟩ | ⟨g, css, tail, e1, e2, e3, e4, e5, e6, e7, e8⟩
     · exact .inl ⟨e1, e2⟩
     · exact .inr ⟨g, css, tail, e1, Nat.zero_le _, e3, e4, e5, e6, e7, All2.imp (fun _ _ h => ⟨h.1, h.2⟩) e8⟩
 · obtain ⟨s', w', k1, k2, gs, k3, k4, k5⟩ := app_own (P := Try.prog) (t := 33) (ty := ty) (e := 5) (i := Try.t5) (bytes := 1) (size := 1) (r := rByte) (B := 0) (F := fun _ => True) (by kernel_rfl) (by kernel_rfl) rfl rfl rfl rfl rByte_ok (ho.mono rByte_ok fun _ h => h.elim) (SliceF.mono rByte_ok hy fun k hk => ⟨trivial, hF k hk⟩) (Nat.zero_le _) (by omega) (by decide)
   refine ⟨s', w', k1, RowB.of (B := 0) ?_, k3.p fun b hb => .inl (k4 b hb).1, k5⟩
   rcases k2 with ⟨e1, e2⟩ | ⟨g, css, tail, e1, e2, e3, e4, e5, e6, e7, e8⟩
   · exact .inl ⟨e1, e2⟩
   · exact .inr ⟨g, css, tail, e1, e2, e3, e4, e5, e6, e7, All2.imp (fun _ _ h => ⟨h.1, h.2⟩) e8⟩
theorem RowB.cut {w : World} {s : Sl} {bs : List UInt8} (h : RowB w s bs) {n : Nat} (hn : n <= s.n) : RowB w (s.cut 0 n n 1) (bs.take n) := by
 have hc := h.sl.cap
 have := h.sl.cut (lo := 0) (hi := n) (m := n) (by omega) (by omega) hn (by omega)
 rw [Nat.sub_zero, List.drop_zero] at this
 have ha : (s.cut 0 n n 1).a = s.a := by
  unfold Sl.cut
  dsimp only
  rw [Nat.zero_mul]
  split
  · rfl
  · cases s.a with
    | none => rfl
    | some g => simp [addr_zero]
 refine ⟨SliceF.mono rByte_ok this fun k hk => ?_, fun g hg => h.lt g (by rw [<- ha]; exact hg), .inl rfl⟩
 rw [ha]; exact hk
structure FileP (w : World) (p : Nat) (s : Sl) (f : Fl) : Prop where
 blk : Blk w p 66 [s.v, .int .i64 (f.sf : Int)]
 row : RowB w s f.bs
 ne : s.a ≠ some ⟨p, 0, none⟩
def InT (tb : Tb) (k : List UInt8) (x : Nat) : Prop := ∃ p s, tb k = some (p, s) /\ (x = p ∨ s.a = some ⟨x, 0, none⟩)
def mT (tb : Tb) : List UInt8 -> Option Value := fun k => (tb k).map fun q => .pointer (some ⟨q.1, 0, none⟩)
structure DkP (w : World) (d : Nat) (D : Dk) (r : Nat) (tb : Tb) (F : Nat -> Prop) : Prop where
 blk : ∃ armed acts part, Blk w d 30 (dcs D.off armed acts part D.room r) /\ Pw D armed acts part
 map : MapV kS gS w r (mT tb) D.fs.length
 non : ∀ k, tb k = none ↔ lookF D.fs k = none
 fil : ∀ k p s f, tb k = some (p, s) -> lookF D.fs k = some f -> FileP w p s f
 dis : ∀ k l x, InT tb k x -> InT tb l x -> k = l
 out : ∀ k x, InT tb k x -> x ≠ d /\ x ≠ r /\ F x
 dr : d ≠ r /\ F d /\ F r
 inv : Inv D
def updT (tb : Tb) (k : List UInt8) (q : Nat × Sl) : Tb := fun x => if x = k then some q else tb x
section
variable {w w' : World} {d r : Nat} {D : Dk} {tb : Tb} {F G : Nat -> Prop} {p : Nat} {s : Sl} {f : Fl} {k : List UInt8}
theorem FileP.lt (h : FileP w p s f) {x : Nat} (hx : x = p ∨ s.a = some ⟨x, 0, none⟩) : x < w.heap.size := by
 rcases hx with rfl | hx
 · exact h.blk.lt
 · exact h.row.blk hx
theorem FileP.keep (h : FileP w p s f) (hk : ∀ x, (x = p ∨ s.a = some ⟨x, 0, none⟩) -> x < w.heap.size -> w'.heap[x]? = w.heap[x]?) : FileP w' p s f :=
 ⟨(hk p (.inl rfl) h.blk.lt).trans h.blk, h.row.keep fun x hx hlt => hk x (.inr hx) hlt, h.ne⟩
theorem DkP.file (h : DkP w d D r tb F) (hf : lookF D.fs k = some f) : ∃ p s, tb k = some (p, s) /\ FileP w p s f := by
 cases ht : tb k with
 | none => rw [(h.non k).1 ht] at hf; cases hf
 | some q => exact ⟨q.1, q.2, rfl, h.fil k q.1 q.2 f ht hf⟩
theorem DkP.hasF (h : DkP w d D r tb F) {q : Nat × Sl} (ht : tb k = some q) : ∃ f, lookF D.fs k = some f := by
 cases hf : lookF D.fs k with
 | none => rw [(h.non k).2 hf] at ht; cases ht
 | some f => exact ⟨f, rfl⟩
theorem DkP.lt (h : DkP w d D r tb F) {x : Nat} (hx : InT tb k x) : x < w.heap.size := by
 obtain ⟨p, s, ht, hx⟩ := hx
 obtain ⟨f, hf⟩ := h.hasF ht
 exact (h.fil k p s f ht hf).lt hx
theorem DkP.dlt (h : DkP w d D r tb F) : d < w.heap.size := by
 obtain ⟨_, _, _, hb, _⟩ := h.blk
 exact hb.lt
theorem DkP.keep (h : DkP w d D r tb F) (hk : ∀ x, F x -> x < w.heap.size -> w'.heap[x]? = w.heap[x]?) : DkP w' d D r tb F := by
 obtain ⟨a, b, c, hb, hp⟩ := h.blk
 exact ⟨⟨a, b, c, (hk d h.dr.2.1 hb.lt).trans hb, hp⟩, h.map.keep (hk r h.dr.2.2 h.map.lt), h.non, fun k p s f ht hf => (h.fil k p s f ht hf).keep fun x hx hlt => hk x (h.out k x ⟨p, s, ht, hx⟩).2.2 hlt, h.dis, h.out, h.dr, h.inv⟩
theorem DkP.only0 (h : DkP w d D r tb F) (hO : Only [] w w') : DkP w' d D r tb F := h.keep fun x _ hlt => hO.block x hlt (by simp)
theorem DkP.mono (h : DkP w d D r tb F) (hk : ∀ x, x < w.heap.size -> F x -> G x) : DkP w d D r tb G :=
 ⟨h.blk, h.map, h.non, h.fil, h.dis, fun k x hx => ⟨(h.out k x hx).1, (h.out k x hx).2.1, hk x (h.lt hx) (h.out k x hx).2.2⟩, ⟨h.dr.1, hk d h.dlt h.dr.2.1, hk r h.map.lt h.dr.2.2⟩, h.inv⟩
theorem DkP.power (h : DkP w d D r tb F) (hO : Only [d] w w') {off armed : Bool} {acts part : Int} {pw : Option (Nat × Int)} (hB : Blk w' d 30 (dcs off armed acts part D.room r)) (hp : Pw { D with off := off, pw := pw } armed acts part) :
  DkP w' d { D with off := off, pw := pw } r tb F :=
 ⟨⟨armed, acts, part, hB, hp⟩, h.map.keep (hO.block r h.map.lt (by simpa using h.dr.1.symm)), h.non, fun k p s f ht hf => (h.fil k p s f ht hf).keep fun x hx hlt => hO.block x hlt (by simpa using (h.out k x ⟨p, s, ht, hx⟩).1), h.dis, h.out, h.dr,
  ⟨h.inv.rise, h.inv.safe, h.inv.nam, h.inv.sum, h.inv.big⟩⟩
theorem DkP.setFile (h : DkP w d D r tb F) {s' : Sl} {f' : Fl} (ht : tb k = some (p, s)) (hn : f'.nm = k) (hO : OnlyP (fun x => x = p ∨ s.a = some ⟨x, 0, none⟩) w w') (hf : FileP w' p s' f') (hs : ∀ x, s'.a = some ⟨x, 0, none⟩ -> s.a = some ⟨x, 0, none⟩ ∨ w.heap.size <= x)
  (hi : Inv (setFs D (putF f' D.fs))) : DkP w' d (setFs D (putF f' D.fs)) r (updT tb k (p, s')) (fun x => F x ∨ w.heap.size <= x) := by
 have hin : ∀ x, (x = p ∨ s.a = some ⟨x, 0, none⟩) -> InT tb k x := fun x hx => ⟨p, s, ht, hx⟩
 obtain ⟨f, hf0⟩ := h.hasF ht
 obtain ⟨a, b, c, hb, hp⟩ := h.blk
 have hlk : ∀ l, lookF (putF f' D.fs) l = if l = k then .some f' else lookF D.fs l := fun l => by rw [putF_look f' l h.inv.rise, hn]
 have hlen : (putF f' D.fs).length = D.fs.length := by rw [putF_len f' h.inv.rise, hn, if_neg (by rw [hf0]; simp)]
 have hnew : ∀ x, InT (updT tb k (p, s')) k x -> InT tb k x ∨ w.heap.size <= x := by
  rintro x ⟨q, t, e, hx⟩
  rw [updT, if_pos rfl] at e
  obtain ⟨rfl, rfl⟩ : p = q /\ s' = t := by simpa using e
  rcases hx with rfl | hx
  · exact .inl (hin _ (.inl rfl))
  · exact (hs x hx).imp (fun h => hin x (.inr h)) id
 have hold : ∀ l x, l ≠ k -> InT (updT tb k (p, s')) l x -> InT tb l x := by
  rintro l x hl ⟨q, t, e, hx⟩
  rw [updT, if_neg hl] at e
  exact ⟨q, t, e, hx⟩
 refine ⟨⟨a, b, c, hO.blk hb fun hx => (h.out k d (hin d hx)).1 rfl, hp⟩, ?_, fun l => ?_, fun l q t g e hg => ?_, fun l m x h1 h2 => ?_, fun l x hx => ?_, ⟨h.dr.1, .inl h.dr.2.1, .inl h.dr.2.2⟩, hi⟩
 · show MapV kS gS w' r _ (putF f' D.fs).length
   rw [hlen]
   refine (h.map.keep (hO.block r h.map.lt fun hx => (h.out k r (hin r hx)).2.1 rfl)).ext fun l => ?_
   unfold mT updT
   split
   · rename_i e
     rw [e, ht]; rfl
   · rfl
 · show _ ↔ lookF (putF f' D.fs) l = none
   rw [hlk, updT]
   split
   · simp
   · exact h.non l
 · have hg : lookF (putF f' D.fs) l = .some g := hg
   rw [hlk] at hg
   rw [updT] at e
   split at e
   · rename_i el
     obtain ⟨rfl, rfl⟩ : p = q /\ s' = t := by simpa using e
     rw [if_pos el] at hg
     injection hg with hg
     rw [<- hg]; exact hf
   · rename_i el
     rw [if_neg el] at hg
     refine (h.fil l q t g e hg).keep fun x hx hlt => hO.block x hlt fun hh => el (h.dis l k x ⟨q, t, e, hx⟩ (hin x hh))
 · by_cases e1 : l = k <;> by_cases e2 : m = k
   · rw [e1, e2]
   · rw [e1] at h1
     have h2 := hold m x e2 h2
     rcases hnew x h1 with h1 | h1
     · exact absurd (h.dis k m x h1 h2).symm e2
     · have := h.lt h2; omega
   · rw [e2] at h2
     have h1 := hold l x e1 h1
     rcases hnew x h2 with h2 | h2
     · exact absurd (h.dis l k x h1 h2) e1
     · have := h.lt h1; omega
   · exact h.dis l m x (hold l x e1 h1) (hold m x e2 h2)
 · by_cases e1 : l = k
   · rw [e1] at hx
     rcases hnew x hx with hx | hx
     · exact ⟨(h.out k x hx).1, (h.out k x hx).2.1, .inl (h.out k x hx).2.2⟩
     · exact ⟨fun e => by have := hb.lt; omega, fun e => by have := h.map.lt; omega, .inr hx⟩
   · have := h.out l x (hold l x e1 hx)
     exact ⟨this.1, this.2.1, .inl this.2.2⟩
theorem DkP.addKey (h : DkP w d D r tb F) (hO : Only [r] w w') (hn : f.nm = k) (hF : ∀ x, F x -> G x) (hm : MapV kS gS w' r (fun x => if x = k then .some (.pointer (.some ⟨p, 0, none⟩)) else mT tb x) (if mT tb k = none then D.fs.length + 1 else D.fs.length)) (hf : FileP w' p s f)
  (hx : ∀ x, (x = p ∨ s.a = .some ⟨x, 0, none⟩) -> x ≠ d /\ x ≠ r /\ G x /\ ∀ l, l ≠ k -> ¬ InT tb l x) (hi : Inv (setFs D (putF f D.fs))) : DkP w' d (setFs D (putF f D.fs)) r (updT tb k (p, s)) G := by
 obtain ⟨a, b, c, hb, hp⟩ := h.blk
 have hlk : ∀ l, lookF (putF f D.fs) l = if l = k then .some f else lookF D.fs l := fun l => by rw [putF_look f l h.inv.rise, hn]
 have hnew : ∀ x, InT (updT tb k (p, s)) k x -> (x = p ∨ s.a = .some ⟨x, 0, none⟩) := by
  rintro x ⟨q, t, e, hx⟩
  rw [updT, if_pos rfl] at e
  obtain ⟨rfl, rfl⟩ : p = q /\ s = t := by simpa using e
  exact hx
 have hold : ∀ l x, l ≠ k -> InT (updT tb k (p, s)) l x -> InT tb l x := by
  rintro l x hl ⟨q, t, e, hx⟩
  rw [updT, if_neg hl] at e
  exact ⟨q, t, e, hx⟩
 refine ⟨⟨a, b, c, hO.blk hb (by simpa using h.dr.1), hp⟩, ?_, fun l => ?_, fun l q t g e hg => ?_, fun l m x h1 h2 => ?_, fun l x hxx => ?_, ⟨h.dr.1, hF d h.dr.2.1, hF r h.dr.2.2⟩, hi⟩
 · refine (hm.ext fun l => ?_).le ?_
   · unfold mT updT
     split <;> rfl
   · show _ <= (putF f D.fs).length
     rw [putF_len f h.inv.rise, hn]
     have : mT tb k = none ↔ lookF D.fs k = none := by
      rw [<- h.non k, mT]
      cases tb k <;> simp
     by_cases hk : lookF D.fs k = none
     · rw [if_pos (this.2 hk), if_pos hk]
       exact Nat.le_refl _
     · rw [if_neg fun e => hk (this.1 e), if_neg hk]
       exact Nat.le_refl _
 · show _ ↔ lookF (putF f D.fs) l = none
   rw [hlk, updT]
   split
   · simp
   · exact h.non l
 · have hg : lookF (putF f D.fs) l = .some g := hg
   rw [hlk] at hg
   rw [updT] at e
   split at e
   · rename_i el
     obtain ⟨rfl, rfl⟩ : p = q /\ s = t := by simpa using e
     rw [if_pos el] at hg
     injection hg with hg
     rw [<- hg]; exact hf
   · rename_i el
     rw [if_neg el] at hg
     exact (h.fil l q t g e hg).keep fun x hx hlt => hO.block x hlt (by simpa using (h.out l x ⟨q, t, e, hx⟩).2.1)
 · by_cases e1 : l = k <;> by_cases e2 : m = k
   · rw [e1, e2]
   · rw [e1] at h1
     exact absurd (hold m x e2 h2) ((hx x (hnew x h1)).2.2.2 m e2)
   · rw [e2] at h2
     exact absurd (hold l x e1 h1) ((hx x (hnew x h2)).2.2.2 l e1)
   · exact h.dis l m x (hold l x e1 h1) (hold m x e2 h2)
 · by_cases e1 : l = k
   · rw [e1] at hxx
     obtain ⟨y1, y2, y3, _⟩ := hx x (hnew x hxx)
     exact ⟨y1, y2, y3⟩
   · have := h.out l x (hold l x e1 hxx)
     exact ⟨this.1, this.2.1, hF x this.2.2⟩
theorem DkP.delKey (h : DkP w d D r tb F) (hO : Only [r] w w') (hm : MapV kS gS w' r (fun x => if x = k then none else mT tb x) (if mT tb k = none then D.fs.length else D.fs.length - 1)) :
  DkP w' d (setFs D (dropF k D.fs)) r (fun x => if x = k then none else tb x) F := by
 obtain ⟨a, b, c, hb, hp⟩ := h.blk
 have hold : ∀ l x, InT (fun x => if x = k then none else tb x) l x -> InT tb l x := by
  rintro l x ⟨q, t, e, hx⟩
  dsimp only at e
  split at e
  · cases e
  · exact ⟨q, t, e, hx⟩
 refine ⟨⟨a, b, c, hO.blk hb (by simpa using h.dr.1), hp⟩, ?_, fun l => ?_, fun l q t g e hg => ?_, fun l m x h1 h2 => h.dis l m x (hold l x h1) (hold m x h2), fun l x hx => h.out l x (hold l x hx), h.dr, h.inv.drop k⟩
 · refine (hm.ext fun l => ?_).le ?_
   · unfold mT
     dsimp only
     by_cases hl : l = k
     · rw [if_pos hl, if_pos hl]; rfl
     · rw [if_neg hl, if_neg hl]
   · show _ <= (dropF k D.fs).length
     have : mT tb k = none ↔ lookF D.fs k = none := by
      rw [<- h.non k, mT]
      cases tb k <;> simp
     by_cases hk : lookF D.fs k = none
     · rw [if_pos (this.2 hk)]
       have : ∀ {m : List Fl}, (∀ g, g ∈ m -> g.nm ≠ k) -> dropF k m = m := fun {m} => by
        induction m with
        | nil => exact fun _ => rfl
        | cons b m ih =>
         intro hm
         rw [dropF, if_neg (hm b (.head _)), ih fun g hg => hm g (.tail _ hg)]
       rw [this (lookF_none.1 hk)]
       exact Nat.le_refl _
     · rw [if_neg fun e => hk (this.1 e)]
       have hd : ∀ {m : List Fl}, Rise m -> m.length <= (dropF k m).length + 1 := fun {m} => by
        induction m with
        | nil => exact fun _ => by simp
        | cons b m ih =>
         intro hr
         obtain ⟨q1, q2⟩ := List.pairwise_cons.1 hr
         rw [dropF]
         split
         · rename_i hbk
           have : dropF k m = m := by
            have : ∀ {m : List Fl}, (∀ g, g ∈ m -> g.nm ≠ k) -> dropF k m = m := fun {m} => by
             induction m with
             | nil => exact fun _ => rfl
             | cons b m ih =>
              intro hm
              rw [dropF, if_neg (hm b (.head _)), ih fun g hg => hm g (.tail _ hg)]
            exact this fun g hg e => by have := q1 g hg; rw [hbk, e] at this; exact absurd this (List.lt_irrefl _)
           rw [this, List.length_cons]
           exact Nat.le_refl _
         · rw [List.length_cons, List.length_cons]
           have := ih q2
           omega
       have := hd h.inv.rise
       omega
 · show _ ↔ lookF (dropF k D.fs) l = none
   rw [dropF_look]
   split
   · simp
   · exact h.non l
 · have hg : lookF (dropF k D.fs) l = .some g := hg
   rw [dropF_look] at hg
   split at e
   · cases e
   · rename_i el
     rw [if_neg el] at hg
     exact (h.fil l q t g e hg).keep fun x hx hlt => hO.block x hlt (by simpa using (h.out l x ⟨q, t, e, hx⟩).2.1)
end
end Go.Proofs.Ytijipkdbkgafkaa.Con
namespace Go.Proofs
open Go.Shelf
def Try.keysM_ren : Go.Shelf.Ren := ⟨fun | 7 => 52 | 10 => 61 | n => n, fun | 23 => 28 | 26 => 9 | 3 => 64 | 28 => 84 | 0 => 0 | 27 => 83 | 33 => 59 | 4 => 4 | n => n, fun | n => n⟩
theorem Try.keysM : Go.Proofs.SlLaysZ.n7 Try.prog Try.keysM_ren := {
 mixed := by kernel_rfl
 f7 := ⟨Try.f52.name, by decide, Try.func52.trans (congrArg some (by kernel_rfl))⟩
 f10 := ⟨Try.f61.name, by decide, Try.func61.trans (congrArg some (by kernel_rfl))⟩
 t0 := Try.underlying0
 a0 := Try.isAgg0
 z0 := Try.sizeOf0
 v0 := Try.zeroValue0
 t4 := Try.underlying4
 a4 := Try.isAgg4
 z4 := Try.sizeOf4
 v4 := Try.zeroValue4
 t23 := Try.underlying28
 a23 := Try.isAgg28
 z23 := Try.sizeOf28
 v23 := Try.zeroValue28
 t26 := Try.underlying9
 a26 := Try.isAgg9
 z26 := Try.sizeOf9
 v26 := Try.zeroValue9
 t27 := Try.underlying83
 a27 := Try.isAgg83
 z27 := Try.sizeOf83
 v27 := Try.zeroValue83
 t28 := Try.underlying84
 a28 := Try.isAgg84
 z28 := Try.sizeOf84
 v28 := Try.zeroValue84
 t33 := Try.underlying59
 a33 := Try.isAgg59
 z33 := Try.sizeOf59
 v33 := Try.zeroValue59 }
def Try.sortedM_ren : Go.Shelf.Ren := ⟨fun | 6 => 51 | 8 => 59 | 9 => 60 | 11 => 62 | 13 => 64 | 12 => 63 | 23 => 74 | 24 => 75 | 14 => 65 | 15 => 66 | 16 => 67 | 17 => 68 | 18 => 69 | 19 => 70 | 20 => 71 | 21 => 72 | 22 => 73 | 25 => 76 | 26 => 77 | 27 => 78 | 28 => 79 | 29 => 80 | 30 => 81 | 31 => 82 | n => n, fun | 26 => 9 | 28 => 84 | 24 => 67 | 0 => 0 | 3 => 3 | 37 => 94 | 48 => 105 | 50 => 107 | 4 => 4 | 40 => 97 | 39 => 96 | 45 => 102 | 5 => 5 | 9 => 9 | 51 => 108 | 55 => 112 | 57 => 114 | 58 => 115 | 33 => 59 | n => n, fun | n => n⟩
theorem Try.sortedM : Go.Proofs.SlLaysZ.n6 Try.prog Try.sortedM_ren := {
 mixed := by kernel_rfl
 f6 := ⟨Try.f51.name, by decide, Try.func51.trans (congrArg some (by kernel_rfl))⟩
 f8 := ⟨Try.f59.name, by decide, Try.func59.trans (congrArg some (by kernel_rfl))⟩
 f11 := ⟨Try.f62.name, by decide, Try.func62.trans (congrArg some (by kernel_rfl))⟩
 t0 := Try.underlying0
 a0 := Try.isAgg0
 z0 := Try.sizeOf0
 v0 := Try.zeroValue0
 t24 := Try.underlying67
 a24 := Try.isAgg67
 z24 := Try.sizeOf67
 v24 := Try.zeroValue67
 t26 := Try.underlying9
 a26 := Try.isAgg9
 z26 := Try.sizeOf9
 v26 := Try.zeroValue9
 t28 := Try.underlying84
 a28 := Try.isAgg84
 z28 := Try.sizeOf84
 v28 := Try.zeroValue84
 i26 := by kernel_rfl }
def Try.sortM_ren : Go.Shelf.Ren := ⟨fun | 6 => 60 | 8 => 64 | 9 => 63 | 19 => 74 | 20 => 75 | 21 => 65 | 22 => 66 | 23 => 67 | 24 => 68 | 25 => 69 | 26 => 70 | 27 => 71 | 28 => 72 | 29 => 73 | 36 => 76 | 31 => 77 | 32 => 78 | 37 => 79 | 38 => 80 | 39 => 81 | 41 => 82 | n => n, fun | 27 => 67 | 29 => 9 | 3 => 3 | 32 => 94 | 26 => 67 | 0 => 0 | 44 => 105 | 46 => 107 | 4 => 4 | 36 => 97 | 35 => 96 | 41 => 102 | 5 => 5 | 9 => 9 | 53 => 108 | 57 => 112 | 63 => 114 | 64 => 115 | n => n, fun | n => n⟩
theorem Try.sortM : Go.Proofs.SlLaysM.n6 Try.prog Try.sortM_ren := {
 mixed := by kernel_rfl
 f6 := ⟨Try.f60.name, by decide, Try.func60.trans (congrArg some (by kernel_rfl))⟩
 f8 := Try.func64.trans (congrArg some (by kernel_rfl))
 f9 := ⟨Try.f63.name, by decide, Try.func63.trans (congrArg some (by kernel_rfl))⟩
 f19 := Try.func74.trans (congrArg some (by kernel_rfl))
 f20 := Try.func75.trans (congrArg some (by kernel_rfl))
 f21 := ⟨Try.f65.name, by decide, Try.func65.trans (congrArg some (by kernel_rfl))⟩
 f22 := ⟨Try.f66.name, by decide, Try.func66.trans (congrArg some (by kernel_rfl))⟩
 f23 := ⟨Try.f67.name, by decide, Try.func67.trans (congrArg some (by kernel_rfl))⟩
 f24 := ⟨Try.f68.name, by decide, Try.func68.trans (congrArg some (by kernel_rfl))⟩
 f25 := ⟨Try.f69.name, by decide, Try.func69.trans (congrArg some (by kernel_rfl))⟩
 f26 := ⟨Try.f70.name, by decide, Try.func70.trans (congrArg some (by kernel_rfl))⟩
 f27 := ⟨Try.f71.name, by decide, Try.func71.trans (congrArg some (by kernel_rfl))⟩
 f28 := ⟨Try.f72.name, by decide, Try.func72.trans (congrArg some (by kernel_rfl))⟩
 f29 := ⟨Try.f73.name, by decide, Try.func73.trans (congrArg some (by kernel_rfl))⟩
 f31 := Try.func77.trans (congrArg some (by kernel_rfl))
 f32 := Try.func78.trans (congrArg some (by kernel_rfl))
 f36 := ⟨Try.f76.name, by decide, Try.func76.trans (congrArg some (by kernel_rfl))⟩
 f37 := ⟨Try.f79.name, by decide, Try.func79.trans (congrArg some (by kernel_rfl))⟩
 f38 := ⟨Try.f80.name, by decide, Try.func80.trans (congrArg some (by kernel_rfl))⟩
 f39 := ⟨Try.f81.name, by decide, Try.func81.trans (congrArg some (by kernel_rfl))⟩
 f41 := ⟨Try.f82.name, by decide, Try.func82.trans (congrArg some (by kernel_rfl))⟩
 t0 := Try.underlying0
 a0 := Try.isAgg0
 z0 := Try.sizeOf0
 v0 := Try.zeroValue0
 t3 := Try.underlying3
 a3 := Try.isAgg3
 z3 := Try.sizeOf3
 v3 := Try.zeroValue3
 t4 := Try.underlying4
 a4 := Try.isAgg4
 z4 := Try.sizeOf4
 v4 := Try.zeroValue4
 t5 := Try.underlying5
 a5 := Try.isAgg5
 z5 := Try.sizeOf5
 v5 := Try.zeroValue5
 t9 := Try.underlying9
 a9 := Try.isAgg9
 z9 := Try.sizeOf9
 v9 := Try.zeroValue9
 t26 := Try.underlying67
 a26 := Try.isAgg67
 z26 := Try.sizeOf67
 v26 := Try.zeroValue67
 t27 := Try.underlying67
 a27 := Try.isAgg67
 z27 := Try.sizeOf67
 v27 := Try.zeroValue67
 t29 := Try.underlying9
 a29 := Try.isAgg9
 z29 := Try.sizeOf9
 v29 := Try.zeroValue9
 t32 := Try.underlying94
 a32 := Try.isAgg94
 z32 := Try.sizeOf94
 v32 := Try.zeroValue94
 t35 := Try.underlying96
 a35 := Try.isAgg96
 z35 := Try.sizeOf96
 v35 := Try.zeroValue96
 t36 := Try.underlying97
 a36 := Try.isAgg97
 z36 := Try.sizeOf97
 v36 := Try.zeroValue97
 t41 := Try.underlying102
 a41 := Try.isAgg102
 z41 := Try.sizeOf102
 v41 := Try.zeroValue102
 t44 := Try.underlying105
 a44 := Try.isAgg105
 z44 := Try.sizeOf105
 v44 := Try.zeroValue105
 t46 := Try.underlying107
 a46 := Try.isAgg107
 z46 := Try.sizeOf107
 v46 := Try.zeroValue107
 t53 := Try.underlying108
 a53 := Try.isAgg108
 z53 := Try.sizeOf108
 v53 := Try.zeroValue108
 t57 := Try.underlying112
 a57 := Try.isAgg112
 z57 := Try.sizeOf112
 v57 := Try.zeroValue112
 t63 := Try.underlying114
 a63 := Try.isAgg114
 z63 := Try.sizeOf114
 v63 := Try.zeroValue114
 t64 := Try.underlying115
 a64 := Try.isAgg115
 z64 := Try.sizeOf115
 v64 := Try.zeroValue115 }
open Go.RowKit Go.Maps Go.Sort Go.Shelf in
theorem Try.sortsM (m : Nat) : AnyZ.SortsIn Try.prog Try.sortedM_ren Fence.wide m :=
  ⟨fun blk off cap ss W hH hblk hsz => callsIn_wide.2 (AnyM.slices_Sort_string Try.sortM blk off cap ss W hH hblk hsz),
   fun p cap W => callsIn_wide.2 (AnyM.slices_Sort_string_none Try.sortM p cap W)⟩
open Go.RowKit Go.Maps Go.Sort Go.Shelf in
theorem Try.keysM_c (mb : Option Nat) (W : World) : Calls Try.prog 52 #[.map mb] W fun e w' => e = .returned (.func (.func 61) #[] #[.pointer (some ⟨W.heap.size, 0, none⟩)]) /\ w' = W.alloc (.cells #[.map mb] 28) :=
 callsIn_wide.1 (AnyZ.keys_in Try.keysM Fence.wide 5 trivial rfl mb W)
open Go.RowKit Go.Maps Go.Sort Go.Shelf in
theorem Try.sortedM_c {H : Type} (k b nn : Nat) (D0 : DataW H) (R : Value -> Option (DataW H × List MemPlace)) (w : World) (hk : k < w.heap.size) (hm : w.cell? ⟨k, 0, none⟩ = some (.map (some b))) (hown : w.ownsMap Try.prog 9 R b nn D0) (hmax : Maps.size D0 <= maxLen) (hbytes : Maps.size D0 * 16 <= 140737488355328) :
  Calls Try.prog 51 #[.func (.func 61) #[] #[.pointer (some ⟨k, 0, none⟩)]] w fun e w' => ∃ (v : Value) (ss : List (List UInt8)), e = .returned v /\ ss.Perm (strKeys D0) /\
   w'.ownsRow w.heap.size 9 1 v ss.length ((ss.mergeSort (fun x y => decide (x <= y))).map encStr) /\ (v = .slice none 0 0 ↔ ss = []) /\ Below w.heap.size w w' := by
 have hseq : SeqGives Fence.wide 2 Try.prog 61 #[.pointer (some ⟨k, 0, none⟩)] encStr (fun ss => ss.Perm (strKeys D0)) (Maps.size D0) w :=
  AnyZ.keys_gives (ρ := Try.keysM_ren) { Try.keysM with } Fence.wide _ trivial rfl (by omega) k b nn D0 w hk hm hown
 exact callsIn_wide.1 (AnyZ.sorted_in Try.sortedM Fence.wide 5 trivial trivial trivial trivial rfl (by omega) (Try.sortsM _) (enters_of Try.func60 (by kernel_rfl) rfl) 61 #[.pointer (some ⟨k, 0, none⟩)] trivial (enters_of Try.func61 (by kernel_rfl) rfl) _ _ hmax hbytes _ hseq)
end Go.Proofs
namespace Go.Proofs.Ytijipkdbkgafkaa.Con
open Go Go.RowKit Go.Kt Go.Kt.V Go.Proofs.Ytijipkdbkgafkaa.Vc
set_option linter.unusedSimpArgs false
set_option linter.unusedVariables false
set_option maxHeartbeats 4000000
theorem els_tx (l : List (List UInt8)) (w : World) (F : Nat -> Prop) : Els rTx 1 w F l (l.map fun a => [Value.string (T a)]) := by
 induction l with
 | nil => exact trivial
 | cons a l ih => exact ⟨⟨rfl, rfl⟩, ih⟩
theorem flat_tx (l : List (List UInt8)) : (l.map fun a => [Value.string (T a)]).flatten = l.map Go.Proofs.encStr := by
 induction l with
 | nil => rfl
 | cons a l ih => rw [List.map_cons, List.flatten_cons, ih]; rfl
theorem own_row {B : Nat} {w : World} {v : Value} {l : List (List UInt8)} {n : Nat} (h : w.ownsRow B 9 1 v n (l.map Go.Proofs.encStr)) : ∃ s : Sl, v = s.v /\ Own rTx 1 9 B w (fun _ => False) s l := by
 obtain ⟨hl, h⟩ := h
 rw [List.length_map, Nat.mul_one] at hl
 subst hl
 rcases h with ⟨rfl, hn⟩ | ⟨g, cap, cur, rfl, h1, h2, h3, h4, h5, h6⟩
 · have : l = [] := List.eq_nil_of_length_eq_zero hn
   subst this
   exact ⟨Sl.nil, rfl, Own.nil _ _ _ _ _ _⟩
 · refine ⟨⟨some ⟨g, 0, none⟩, l.length, cap⟩, rfl, .inr ⟨g, _, cur.toList.drop l.length, rfl, h1, ?_, ?_, rfl, h3, ?_, els_tx l w _⟩⟩
   · rw [Nat.mul_one] at h6
     rw [flat_tx, <- h6, List.take_append_drop]
     unfold Blk
     rw [h2]
   · dsimp only
     rw [List.length_drop, Array.length_toList, h5]
     omega
   · have : maxLen = 9223372036854775807 := rfl
     dsimp only
     omega
def itV (k : Nat) : OV := ⟨.func (.func 61) #[] #[.pointer (some ⟨k, 0, none⟩)], rfl⟩
theorem keysM_c (r : Nat) (w : World) : Calls Try.prog 52 #[.map (some r)] w fun e w' => e = .returned (itV w.heap.size).v /\ Blk w' w.heap.size 28 [.map (some r)] /\ Only [] w w' /\ w.heap.size < w'.heap.size := by
 refine (Try.keysM_c (some r) w).mono ?_
 rintro e w' ⟨rfl, rfl⟩
 exact ⟨rfl, heap_alloc_new w _, Only.alloc _ _, by show _ < (w.heap.push _).size; simp⟩
theorem sortedM_c {w : World} {r n k : Nat} {m : List UInt8 -> Option Value} {L : List (List UInt8)} (h : MapV kS gS w r m n) (hn : n <= 4194304) (hk : Blk w k 28 [.map (some r)]) (hL : L.Pairwise (· < ·)) (he : ∀ a, a ∈ L ↔ (m a).isSome = true) :
  Calls Try.prog 51 #[(itV k).v] w fun e w' => ∃ s : Sl, e = .returned s.v /\ Own rTx 1 9 w.heap.size w' (fun _ => False) s L /\ Only [] w w' := by
 obtain ⟨D, h1, h2, h3, h4⟩ := h.owns (P := Try.prog) (kt := 9) (by kernel_rfl) (by have : maxLen = 9223372036854775807 := rfl; omega)
 refine (Try.sortedM_c k r n D _ w hk.lt (hk.cell 0) h1 (by have : maxLen = 9223372036854775807 := rfl; omega) (by omega)).mono ?_
 rintro e w' ⟨v, ss, rfl, k1, k2, k3, k4⟩
 have hs : ss.Nodup := k1.nodup_iff.2 h3
 rw [sorted_is hL hs fun a => by rw [k1.mem_iff, h4, he]] at k2
 obtain ⟨s, rfl, ho⟩ := own_row k2
 exact ⟨s, rfl, ho, Only.of_below k4⟩
end Go.Proofs.Ytijipkdbkgafkaa.Con
namespace Go.Proofs.Ytijipkdbkgafkaa.Con
open Go Go.RowKit Go.Kt Go.Kt.V Go.Proofs.Ytijipkdbkgafkaa.Vc
set_option linter.unusedSimpArgs false
set_option linter.unusedVariables false
set_option maxHeartbeats 1000000
abbrev Gr (F : Nat -> Prop) (w w' : World) : Nat -> Prop := fun k => F k ∨ (w.heap.size <= k /\ k < w'.heap.size)
section
variable {w w' : World} {d r : Nat} {D : Dk} {tb : Tb} {F G : Nat -> Prop} {p : Nat} {s : Sl} {f : Fl} {k : List UInt8}
theorem DkP.off (h : DkP w d D r tb F) : Cells w ((⟨d, 0, none⟩ : Addr).add 0) [.bool D.off] := by
 obtain ⟨a, b, c, hb, _⟩ := h.blk
 exact Blk.at1 hb 0 rfl
theorem DkP.mp (h : DkP w d D r tb F) : Cells w ((⟨d, 0, none⟩ : Addr).add 5) [.map (some r)] := by
 obtain ⟨a, b, c, hb, _⟩ := h.blk
 exact Blk.at1 hb 5 rfl
theorem DkP.look (h : DkP w d D r tb F) (s : List UInt8) : (Instr.lookup 28 (.map (some r)) (.string (T s)) false).run Try.prog w = .ok (.pointer ((tb s).map fun q => ⟨q.1, 0, none⟩)) w := by
 have := h.map.lookup (P := Try.prog) (mty := 28) (kt := 9) (et := 64) (z := .pointer none) keyS (by kernel_rfl) (by kernel_rfl) (fun w => Try.zeroValue64 w) s
 rw [this, mT]
 cases tb s <;> rfl
theorem pcut_c (h : DkP w d D r tb F) : Calls Try.prog 27 #[.pointer (some ⟨d, 0, none⟩)] w fun e w' => e = .returned (.tuple #[.bool (cutP D).1.isSome, .int .i64 ((cutP D).1.getD 0)]) /\ DkP w' d (cutP D).2 r tb F /\ Only [d] w w' := by
 refine ret (v21w ⟨d, 0, none⟩ (fun v w' => v = .tuple #[.bool (cutP D).1.isSome, .int .i64 ((cutP D).1.getD 0)] /\ DkP w' d (cutP D).2 r tb F /\ Only [d] w w') w ?_)
 unfold v21v
 obtain ⟨armed, acts, part, hb, hp⟩ := h.blk
 refine ⟨armed, Blk.at1 hb 1 rfl, fun ha => ?_, fun ha => ?_⟩
 · have ha : armed = false := by simpa using ha
   have hn : D.pw = none := by
    unfold Pw at hp
    split at hp
    · assumption
    · rw [ha] at hp; cases hp.1
   have e : cutP D = (none, D) := by unfold cutP; rw [hn]
   rw [e]
   exact ⟨rfl, h, (Only.refl [] w).weaken fun _ h => (by cases h)⟩
 · have ha : armed = true := by simpa using ha
   obtain ⟨a, q, hn⟩ : ∃ a q, D.pw = some (a, q) := by
    unfold Pw at hp
    split at hp
    · rw [ha] at hp; cases hp
    · exact ⟨_, _, by assumption⟩
   unfold Pw at hp
   rw [hn] at hp
   obtain ⟨_, rfl, rfl, hab⟩ := hp
   refine ⟨_, Blk.at1 hb 2 rfl, fun hc => ?_, fun hc => ?_⟩
   · have hc : (0 : Int) < a := of_decide_eq_true hc
     obtain ⟨a, rfl⟩ : ∃ b, a = b + 1 := ⟨a - 1, by omega⟩
     have e : cutP D = (none, { D with pw := some (a, part) }) := by unfold cutP; rw [hn]
     refine ⟨_, Blk.at1 hb 2 rfl, d, 2, _, _, rfl, hb, by simp, fun w0 hO hB => ?_⟩
     rw [e]
     have hw : IntKind.wrap .i64 (((a + 1 : Nat) : Int) - 1) = (a : Int) := by rw [wr' (by omega) (by omega)]; omega
     rw [hw] at hB
     exact ⟨rfl, h.power hO (off := D.off) (pw := some (a, part)) hB ⟨ha, rfl, rfl, by omega⟩, hO⟩
   · have hc : ¬ (0 : Int) < a := of_decide_eq_false hc
     obtain rfl : a = 0 := by omega
     have e : cutP D = (some part, { D with pw := none, off := true }) := by unfold cutP; rw [hn]
     refine ⟨d, 1, _, _, rfl, hb, by simp, fun w1 hO1 hB1 => ⟨d, 0, _, _, rfl, hB1, by simp [splice], fun w2 hO2 hB2 => ⟨_, Blk.at1 hB2 3 rfl, fun w3 hO3 => ?_⟩⟩⟩
     rw [e]
     have o : Only [d] w w3 := (hO1.trans hO2 fun x hx => .inl hx).tr0 hO3
     exact ⟨rfl, h.power o (off := true) (pw := none) (hO3.blk hB2 (by simp)) rfl, o⟩
theorem name_c (s : List UInt8) : Calls Try.prog 25 #[.string (T s)] w fun e w' => e = .returned (.bool (nameK s)) /\ w' = w := by
 refine ret (v18w (T s) (fun v w' => v = .bool (nameK s) /\ w' = w) w ?_)
 unfold v18v
 refine ⟨?_, rfl⟩
 unfold nameK
 have e1 : ((T s).toList == (ByteArray.mk #[]).toList) = decide (s = []) := by
  rw [Lib.toList_data, Lib.toList_data, Bool.eq_iff_iff]
  simp
 have e2 : ((T s).size : Int) <= 32 ↔ s.length <= 32 := by
  have : (T s).size = s.length := by show s.toArray.size = _; simp
  rw [this]; omega
 rw [e1, decide_eq_decide.2 e2]
theorem modulo_c (n : Int) {k : Nat} (hk : 0 < k) (hb : k <= 1152921504606846976) : Calls Try.prog 28 #[.int .i64 n, .int .i64 (k : Int)] w fun e w' => e = .returned (.int .i64 (modI n k : Int)) /\ w' = w := by
 refine ret (v17w n (k : Int) (fun v w' => v = .int .i64 (modI n k : Int) /\ w' = w) w ?_)
 unfold v17v
 have h1 := Int.lt_tmod_of_pos n (b := (k : Int)) (by omega)
 have h2 := Int.tmod_lt_of_pos n (b := (k : Int)) (by omega)
 refine ⟨by omega, by omega, ?_, rfl⟩
 rw [wr' (by omega) (by omega), modI_eq n hk]
theorem find_c (h : DkP w d D r tb F) (s : List UInt8) : Calls Try.prog 31 #[.pointer (some ⟨d, 0, none⟩), .string (T s)] w fun e w' => (∃ q : Option Addr, e = .returned (.tuple #[.pointer q, .int .i64 (findE D s)]) /\ (findE D s = 0 -> D.off = false /\ ∃ p sl f, tb s = some (p, sl) /\ lookF D.fs s = some f /\ q = some ⟨p, 0, none⟩ /\ FileP w p sl f)) /\ w' = w := by
 refine (v14w ⟨d, 0, none⟩ (T s) (fun v w' => (∃ q : Option Addr, v = .tuple #[.pointer q, .int .i64 (findE D s)] /\ (findE D s = 0 -> D.off = false /\ ∃ p sl f, tb s = some (p, sl) /\ lookF D.fs s = some f /\ q = some ⟨p, 0, none⟩ /\ FileP w p sl f)) /\ w' = w) w ?_).mono (by
  rintro _ w' ⟨v, rfl, ⟨q, rfl, h⟩, h'⟩; exact ⟨⟨q, rfl, h⟩, h'⟩)
 unfold v14v
 refine ⟨_, h.mp, _, w, h.look s, D.off, h.off, fun ho => ?_, fun ho => ⟨fun hq => ?_, fun hq => ?_⟩⟩
 · have e : findE D s = 50 := by unfold findE; rw [ho]; rfl
   rw [e]
   exact ⟨⟨_, rfl, fun h => (by cases h)⟩, rfl⟩
 · have ht : tb s = none := by cases ht : tb s with
    | none => rfl
    | some q => rw [ht] at hq; cases hq
   have e : findE D s = 51 := by unfold findE; rw [ho, if_neg (by simp), if_pos ((h.non s).1 ht)]
   rw [e]
   exact ⟨⟨_, rfl, fun h => (by cases h)⟩, rfl⟩
 · cases ht : tb s with
   | none => rw [ht] at hq; cases hq
   | some q =>
    obtain ⟨f, hf⟩ := h.hasF ht
    have e : findE D s = 0 := by unfold findE; rw [ho, if_neg (by simp), if_neg (by rw [hf]; simp)]
    rw [e]
    exact ⟨⟨_, rfl, fun _ => ⟨ho, q.1, q.2, f, rfl, hf, rfl, h.fil s q.1 q.2 f ht hf⟩⟩, rfl⟩
theorem bclone_c {bs : List UInt8} (hs : SliceF rByte 1 w G s bs) (hm : bs.length <= 140737488355328) : Calls Try.prog 30 #[s.v] w fun e w' => (∃ t : Sl, e = .returned t.v /\ Own rByte 1 5 w.heap.size w' (fun _ => False) t bs) /\ Only [] w w' := by
 refine (v0w s (fun v w' => (∃ t : Sl, v = t.v /\ Own rByte 1 5 w.heap.size w' (fun _ => False) t bs) /\ Only [] w w') w ?_).mono (by
  rintro _ w' ⟨v, rfl, ⟨t, rfl, h⟩, h'⟩; exact ⟨⟨t, rfl, h⟩, h'⟩)
 unfold v0v
 refine ⟨fun ha => ?_, fun ha => ?_⟩
 · have h0 := hs.nil0 (by cases h : s.a with
    | none => rfl
    | some a => rw [h] at ha; cases ha)
   have : bs = [] := List.eq_nil_of_length_eq_zero (by have := hs.len; have := hs.cap; omega)
   subst this
   exact ⟨⟨Sl.nil, rfl, Own.nil _ _ _ _ _ _⟩, Only.refl _ _⟩
 · obtain ⟨x1, w1, k1, x2, w2, k2, k3, k4, k5⟩ := clone_own (P := Try.prog) (t := 33) (ty := 33) (e := 5) (i := Try.t5) (bytes := 1) (size := 1) (r := rByte) (by kernel_rfl) (by kernel_rfl) rfl rfl rfl rfl (by decide) rByte_ok hs (by omega) (by decide)
   refine ⟨x1, w1, k1, x2, w2, k2, ⟨x2, rfl, ?_⟩, k4⟩
   rcases k3 with ⟨e1, e2⟩ | ⟨g, css, tail, e1, e2, e3, e4, e5, e6, e7, e8⟩
   · exact .inl ⟨e1, e2⟩
   · exact .inr ⟨g, css, tail, e1, e2, e3, e4, e5, e6, e7, All2.imp (fun _ _ h => ⟨h.1, h.2⟩) e8⟩
theorem rise_map {l : List Fl} (h : Rise l) : (l.map (·.nm)).Pairwise (· < ·) := List.pairwise_map.2 h
theorem names_c (h : DkP w d D r tb F) (hn : D.fs.length <= 4194304) : Calls Try.prog 29 #[.pointer (some ⟨d, 0, none⟩)] w fun e w' => (∃ t : Sl, e = .returned t.v /\ Own rTx 1 9 w.heap.size w' (fun _ => False) t (D.fs.map (·.nm))) /\ Only [] w w' := by
 refine (v7w ⟨d, 0, none⟩ (fun v w' => (∃ t : Sl, v = t.v /\ Own rTx 1 9 w.heap.size w' (fun _ => False) t (D.fs.map (·.nm))) /\ Only [] w w') w ?_).mono (by
  rintro _ w' ⟨v, rfl, ⟨t, rfl, h⟩, h'⟩; exact ⟨⟨t, rfl, h⟩, h'⟩)
 unfold v7v
 refine ⟨_, h.mp, (keysM_c r w).mono ?_⟩
 rintro _ w0 ⟨rfl, hB, hO, hz⟩
 refine ⟨itV w.heap.size, rfl, (sortedM_c (h.map.only hO (by simp)) hn hB (rise_map h.inv.rise) fun a => ?_).mono ?_⟩
 · have e : (mT tb a).isSome = true ↔ lookF D.fs a ≠ none := by
    rw [ne_eq, <- h.non a, mT]
    cases tb a <;> simp
   rw [e, List.mem_map]
   constructor
   · rintro ⟨f, hf, rfl⟩
     rw [h.inv.rise.lookF hf]; simp
   · intro hl
     cases hq : lookF D.fs a with
     | none => exact absurd hq hl
     | some f => exact ⟨f, lookF_mem hq⟩
 · rintro _ w1 ⟨t, rfl, ho, hO1⟩
   exact ⟨t, rfl, ⟨t, rfl, ho.low (by omega)⟩, hO.tr0 hO1⟩
end
end Go.Proofs.Ytijipkdbkgafkaa.Con
namespace Go.Proofs.Ytijipkdbkgafkaa.Con
open Go Go.RowKit Go.Kt Go.Kt.V Go.Proofs.Ytijipkdbkgafkaa.Vc
open Go.ChangeMaps (setBlock)
set_option linter.unusedSimpArgs false
set_option linter.unusedVariables false
set_option maxHeartbeats 1000000
def kNm : Value -> List UInt8
 | .string s => s.data.toList
 | _ => []
def hF (fs : List Fl) (n : List UInt8) : Nat := ((lookF fs n).map (·.bs.length)).getD 0
def sumE (fs : List Fl) (l : List MapEntry) : Nat := (l.map fun x => hF fs (kNm x.key)).sum
theorem perm_sum {l m : List Nat} (h : l.Perm m) : l.sum = m.sum := by
 induction h with
 | nil => rfl
 | cons a _ ih => rw [List.sum_cons, List.sum_cons, ih]
 | swap a b l => simp only [List.sum_cons]; omega
 | trans _ _ h1 h2 => exact h1.trans h2
theorem sumE_step (fs : List Fl) (seen : Array Nat) (e : MapEntry) (hs : seen.contains e.born = false) : ∀ (l : List MapEntry), (l.map (·.born)).Nodup -> e ∈ l ->
  sumE fs (l.filter fun x => !seen.contains x.born) = hF fs (kNm e.key) + sumE fs (l.filter fun x => !(seen.push e.born).contains x.born)
 | x :: l, hn, he => by
  obtain ⟨h1, h2⟩ := List.nodup_cons.1 hn
  have hp : ∀ y : MapEntry, (seen.push e.born).contains y.born = (seen.contains y.born || y.born == e.born) := fun y => contains_push seen e.born y.born
  rcases List.mem_cons.1 he with rfl | he
  · have hsame : (l.filter fun x => !(seen.push e.born).contains x.born) = l.filter fun x => !seen.contains x.born := List.filter_congr fun y hy => by
     rw [hp]
     have : (y.born == e.born) = false := by
      rw [beq_eq_false_iff_ne]
      exact fun h => h1 (List.mem_map.2 ⟨y, hy, h⟩)
     rw [this, Bool.or_false]
    have a1 : (!seen.contains e.born) = true := by rw [hs]; rfl
    have a2 : ¬ (!(seen.push e.born).contains e.born) = true := by rw [hp, hs]; simp
    rw [List.filter_cons_of_pos (p := fun x : MapEntry => !seen.contains x.born) a1, List.filter_cons_of_neg (p := fun x : MapEntry => !(seen.push e.born).contains x.born) a2, hsame]
    simp only [sumE, List.map_cons, List.sum_cons]
  · have hne : (x.born == e.born) = false := by
     rw [beq_eq_false_iff_ne]
     exact fun h => h1 (List.mem_map.2 ⟨e, he, h.symm⟩)
    have ih := sumE_step fs seen e hs l h2 he
    have hx : (!(seen.push e.born).contains x.born) = !seen.contains x.born := by rw [hp, hne, Bool.or_false]
    by_cases hc : (!seen.contains x.born) = true
    · rw [List.filter_cons_of_pos (p := fun x : MapEntry => !seen.contains x.born) hc, List.filter_cons_of_pos (p := fun x : MapEntry => !(seen.push e.born).contains x.born) (by rw [hx]; exact hc)]
      simp only [sumE, List.map_cons, List.sum_cons] at ih ⊢
      omega
    · rw [List.filter_cons_of_neg (p := fun x : MapEntry => !seen.contains x.born) hc, List.filter_cons_of_neg (p := fun x : MapEntry => !(seen.push e.born).contains x.born) (by rw [hx]; exact hc)]
      exact ih
theorem sum_names {fs : List Fl} (hr : Rise fs) : ∀ {l : List Fl}, (∀ f, f ∈ l -> f ∈ fs) -> ((l.map (·.nm)).map (hF fs)).sum = sumF l
 | [], _ => rfl
 | f :: l, h => by
  rw [List.map_cons, List.map_cons, List.sum_cons, sumF, sum_names hr fun g hg => h g (.tail _ hg)]
  congr 1
  unfold hF
  rw [hr.lookF (h f (.head _))]
  rfl
theorem only_iter {w w1 : World} {b : Nat} {o : Obj} (h : w1 = w ∨ w1 = w.drew) : Only [b] w (setBlock w1 b o) := by
 rcases h with rfl | rfl
 · exact ⟨rfl, rfl, rfl, by simp [setBlock], fun k hk hn => by
    show (w1.heap.setIfInBounds b o)[k]? = _
    rw [Array.getElem?_setIfInBounds_ne (by simpa using fun e => hn (by simp [e]))]⟩
 · exact ⟨rfl, rfl, rfl, by show w.heap.size <= (w.heap.setIfInBounds b o).size; simp, fun k hk hn => by
    show (w.heap.setIfInBounds b o)[k]? = _
    rw [Array.getElem?_setIfInBounds_ne (by simpa using fun e => hn (by simp [e]))]⟩
section
variable {w w' : World} {d r : Nat} {D : Dk} {tb : Tb} {F G : Nat -> Prop}
theorem free_c (h : DkP w d D r tb F) : Calls Try.prog 18 #[.pointer (some ⟨d, 0, none⟩)] w fun e w' => e = .returned (.int .i64 ((D.room : Int) - sumF D.fs)) /\ Only [] w w' := by
 refine ret (v6w ⟨d, 0, none⟩ (fun v w' => v = .int .i64 ((D.room : Int) - sumF D.fs) /\ Only [] w w') w ?_)
 unfold v6v
 obtain ⟨a, b, c, hb, _⟩ := h.blk
 obtain ⟨es, clock, m1, m2, m3, m4, m5⟩ := h.map.mem
 obtain ⟨st1, st2, st3⟩ := m2
 have hsum := h.inv.sum
 have hbig := h.inv.big
 have hkey : ∀ x, x ∈ es.toList -> ∃ k p s f, x.key = .string (T k) /\ kNm x.key = k /\ x.val = .pointer (some ⟨p, 0, none⟩) /\ tb k = some (p, s) /\ lookF D.fs k = some f /\ FileP w p s f := fun x hx => by
  obtain ⟨k, e1, _⟩ := m4 x hx
  have hm := (m5 k x.val).2 ⟨x, hx, e1, rfl⟩
  unfold mT at hm
  cases ht : tb k with
  | none => rw [ht] at hm; cases hm
  | some q =>
   rw [ht] at hm
   obtain ⟨f, hf⟩ := h.hasF ht
   refine ⟨k, q.1, q.2, f, e1, by rw [e1]; rfl, by simpa using hm.symm, ht, hf, h.fil k q.1 q.2 f ht hf⟩
 have hall : sumE D.fs es.toList = sumF D.fs := by
  have hp : (es.toList.map fun x => kNm x.key).Perm (D.fs.map (·.nm)) := by
   refine (List.perm_ext_iff_of_nodup ?_ ?_).2 fun n => ?_
   · refine List.pairwise_map.2 ((List.pairwise_map.1 st3).imp_of_mem fun {x y} hx hy hne he => hne ?_)
     obtain ⟨k, _, _, _, e1, e2, _⟩ := hkey x hx
     obtain ⟨l, _, _, _, g1, g2, _⟩ := hkey y hy
     rw [e1, g1, <- e2, <- g2, he]
   · exact (rise_map h.inv.rise).imp fun hlt he => by subst he; exact absurd hlt (List.lt_irrefl _)
   · constructor
     · intro hn
       obtain ⟨x, hx, rfl⟩ := List.mem_map.1 hn
       obtain ⟨k, p, s, f, e1, e2, _, _, hf, _⟩ := hkey x hx
       obtain ⟨g1, g2⟩ := lookF_mem hf
       exact List.mem_map.2 ⟨f, g1, by rw [e2, g2]⟩
     · intro hn
       obtain ⟨f, hf, rfl⟩ := List.mem_map.1 hn
       obtain ⟨p, s, ht, _⟩ := h.file (h.inv.rise.lookF hf)
       obtain ⟨x, hx, e1, _⟩ := (m5 f.nm (.pointer (some ⟨p, 0, none⟩))).1 (by unfold mT; rw [ht]; rfl)
       exact List.mem_map.2 ⟨x, hx, by rw [e1]; rfl⟩
  have := perm_sum (hp.map (hF D.fs))
  rw [List.map_map, sum_names h.inv.rise fun f hf => hf] at this
  exact this
 refine ⟨_, Blk.at1 hb 4 rfl, _, h.mp, _, _, run_range_map w 28 9 64 r es clock (by kernel_rfl) m1, ?_⟩
 have hO0 : Only [] w (w.alloc (.mapIter (some r) clock #[] clock)) := Only.alloc _ _
 have hi0 : (w.alloc (.mapIter (some r) clock #[] clock)).heap[w.heap.size]? = some (.mapIter (some r) clock #[] clock) := heap_alloc_new w _
 generalize w.alloc (.mapIter (some r) clock #[] clock) = w0 at *
 refine ⟨fun nv i u => ∃ seen c0, u.heap[w.heap.size]? = some (.mapIter (some r) clock seen c0) /\ clock <= c0 /\ Only [] w u /\ nv = (leftOf es seen).size /\ i = (D.room : Int) - sumF D.fs + sumE D.fs (leftOf es seen).toList /\ sumE D.fs (leftOf es seen).toList <= sumF D.fs, es.size, ⟨#[], clock, hi0, Nat.le_refl _, hO0, ?_, ?_, ?_⟩, ?_⟩
 · have : leftOf es #[] = es := by unfold leftOf; simp
   rw [this]
 · have : leftOf es #[] = es := by unfold leftOf; simp
   rw [this, hall]; omega
 · have : leftOf es #[] = es := by unfold leftOf; simp
   rw [this, hall]; exact Nat.le_refl _
 rintro nv i w1 ⟨seen, c0, hi, hc, hO1, rfl, rfl, hle⟩
 have hb1 : w1.heap[r]? = some (.map es clock) := (hO1.block r h.map.lt (by simp)).trans m1
 rcases run_next_at (P := Try.prog) w1 0 w.heap.size r clock c0 seen es clock hi hb1 (fun x hx => st1 x hx) hc with ⟨hz, hn⟩ | ⟨e, he, w2, hw2, hn⟩
 · left
   refine ⟨w1, hn, ?_, hO1⟩
   have : (leftOf es seen).toList = [] := List.eq_nil_of_length_eq_zero (by rw [Array.length_toList]; exact hz)
   rw [this]
   simp [sumE]
 · right
   obtain ⟨he1, he2⟩ := mem_left he
   obtain ⟨k, p, s, f, e1, e2, e3, e4, e5, e6⟩ := hkey e he1
   have hO3 := only_iter (b := w.heap.size) (o := .mapIter (some r) clock (seen.push e.born) clock) hw2
   have hi3 : (setBlock w2 w.heap.size (.mapIter (some r) clock (seen.push e.born) clock)).heap[w.heap.size]? = some (.mapIter (some r) clock (seen.push e.born) clock) := by
    show (w2.heap.setIfInBounds _ _)[_]? = _
    have hlt : w.heap.size < w2.heap.size := by
     have := (Array.getElem?_eq_some_iff.1 hi).1
     rcases hw2 with rfl | rfl
     · exact this
     · exact this
    rw [Array.getElem?_setIfInBounds_self_of_lt hlt]
   generalize setBlock w2 w.heap.size (.mapIter (some r) clock (seen.push e.born) clock) = w3 at *
   have hO13 : Only [] w w3 := hO1.trans hO3 (by simp)
   have hb3 : w3.heap[r]? = some (.map es clock) := (hO13.block r h.map.lt (by simp)).trans m1
   rw [e1, e3] at hn
   have hent := run_entry_at (P := Try.prog) w3 w.heap.size r clock seen es clock e hi3 hb3 he1 st2
   rw [e1, e3] at hent
   have hB := hO13.blk e6.blk (by simp)
   have hstep := sumE_step D.fs seen e he2 es.toList st2 he1
   have hl1 : (leftOf es seen).toList = es.toList.filter fun x => !seen.contains x.born := by unfold leftOf; simp
   have hl2 : (leftOf es (seen.push e.born)).toList = es.toList.filter fun x => !(seen.push e.born).contains x.born := by unfold leftOf; simp
   rw [<- hl1, <- hl2] at hstep
   have hlen := e6.row.sl.len
   have hf : hF D.fs (kNm e.key) = s.n := by
    unfold hF
    rw [e2, e5, hlen]; rfl
   rw [hf] at hstep
   refine ⟨T k, _, w3, hn, T k, _, w3, hent, _, rfl, s, Blk.at1 hB 0 rfl, _, left_shrinks es seen e he, seen.push e.born, clock, hi3, Nat.le_refl _, hO13, rfl, ?_, ?_⟩
   · rw [wr' (by omega) (by omega)]
     omega
   · omega
end
end Go.Proofs.Ytijipkdbkgafkaa.Con
namespace Go.Proofs.Ytijipkdbkgafkaa.Con
open Go Go.RowKit Go.Kt Go.Kt.V Go.Proofs.Ytijipkdbkgafkaa.Vc
set_option linter.unusedSimpArgs false
set_option linter.unusedVariables false
set_option maxHeartbeats 1000000
def goesP (D : Dk) : Bool := match (cutP D).1 with
 | none => true
 | some p => decide (p.tmod 2 ≠ 0)
theorem goesP_eq (D : Dk) : ((!(cutP D).1.isSome) || (((cutP D).1.getD 0).tmod 2 != 0)) = goesP D := by
 unfold goesP
 cases (cutP D).1 with
 | none => rfl
 | some p =>
  by_cases hp : p.tmod 2 = 0 <;> simp [hp]
def codeP (D : Dk) : Int := if (cutP D).1.isSome then 50 else 0
theorem wholeD_eq (D : Dk) (op : List Fl -> List Fl) : wholeD D op = (codeP D, if goesP D = true then setFs (cutP D).2 (op (cutP D).2.fs) else (cutP D).2) := by
 unfold wholeD codeP goesP
 rcases cutP D with ⟨g, E⟩
 cases g with
 | none => rfl
 | some p => simp only [Option.isSome_some, if_true, decide_eq_true_eq]
def Dsk (w : World) (d : Nat) (D : Dk) (F : Nat -> Prop) : Prop := ∃ r tb, DkP w d D r tb F
section
variable {w w' : World} {d r : Nat} {D E : Dk} {tb : Tb} {F G : Nat -> Prop} {p : Nat} {sl : Sl} {f : Fl} {s : List UInt8}
theorem Dsk.gr {u : World} (h : DkP w' d D r tb (fun x => F x ∨ u.heap.size <= x)) : Dsk w' d D (Gr F u w') := ⟨r, tb, h.mono fun x hx hf => hf.imp id fun h => ⟨h, hx⟩⟩
theorem Dsk.gr0 {u : World} (h : DkP w' d D r tb F) : Dsk w' d D (Gr F u w') := ⟨r, tb, h.mono fun x _ hf => .inl hf⟩
theorem whole_c (h : DkP w d D r tb F) {g : FuncId} {caps : List Value} {Q : World -> Prop} (hen : ∀ (args : Array Value) (w : World), (callFunc g args).run Try.prog w = .ok (.enter g args) w)
  (hC : ∀ u, DkP u d (cutP D).2 r tb F -> Only [d] w u -> Calls Try.prog g caps.toArray u fun e u' => e = .returned (.tuple #[]) /\ Q u') :
  Calls Try.prog 32 #[.pointer (some ⟨d, 0, none⟩), .func (.func g) #[] caps.toArray] w fun e w' => e = .returned (.int .i64 (codeP D)) /\ (if goesP D = true then Q w' else DkP w' d (cutP D).2 r tb F /\ Only [d] w w') := by
 refine ret (v15w ⟨d, 0, none⟩ ⟨.func (.func g) #[] caps.toArray, rfl⟩ (fun v w' => v = .int .i64 (codeP D) /\ (if goesP D = true then Q w' else DkP w' d (cutP D).2 r tb F /\ Only [d] w w')) w ?_)
 unfold v15v
 refine (pcut_c h).mono ?_
 rintro _ w0 ⟨rfl, h0, hO⟩
 refine ⟨_, _, rfl, fun u => (if goesP D = true then Q u else DkP u d (cutP D).2 r tb F /\ Only [d] w u), fun w1 hJ => ⟨fun hb => ⟨by unfold codeP; rw [if_pos hb], hJ⟩, fun hb => ⟨by unfold codeP; rw [if_neg (by rw [hb]; simp)], hJ⟩⟩, fun hc => ?_, fun hc => ?_⟩
 · rw [goesP_eq] at hc
   refine ⟨g, [], caps, rfl, hen, (hC w0 h0 hO).mono ?_⟩
   rintro _ u' ⟨rfl, hQ⟩
   exact ⟨rfl, by show (if goesP D = true then Q u' else _); rw [if_pos hc]; exact hQ⟩
 · rw [goesP_eq] at hc
   show (if goesP D = true then Q w0 else _)
   rw [if_neg (by rw [hc]; simp)]
   exact ⟨h0, hO⟩
theorem sum_same {l : List Fl} (hr : Rise l) (hf : lookF l s = some f) {f' : Fl} (hn : f'.nm = s) (hl : f'.bs.length <= f.bs.length) : sumF (putF f' l) <= sumF l := by
 have := putF_sum f' hr
 rw [hn, hf] at this
 simp only [Option.map_some, Option.getD_some] at this
 omega
theorem cutcl_c {u : World} (h : DkP u d E r tb F) {n : Nat} (ht : tb s = some (p, sl)) (hf : lookF E.fs s = some f) (hn : n <= f.bs.length) {k0 k2 : Nat} {t0 t2 : TypeId} (hB2 : Blk u k2 t2 [.pointer (some ⟨p, 0, none⟩)]) (hB0 : Blk u k0 t0 [.int .i64 (n : Int)]) (hp2 : p ≠ k2) (hp0 : p ≠ k0) :
  Calls Try.prog 33 #[.pointer (some ⟨k2, 0, none⟩), .pointer (some ⟨k0, 0, none⟩)] u fun e u' => e = .returned (.tuple #[]) /\ DkP u' d (setFs E (putF ⟨s, f.bs.take n, min n f.sf⟩ E.fs)) r (updT tb s (p, sl.cut 0 n n 1)) (fun x => F x ∨ u.heap.size <= x) /\ OnlyP F u u' := by
 refine ret (v3w ⟨k2, 0, none⟩ ⟨k0, 0, none⟩ (fun v u' => v = .tuple #[] /\ DkP u' d (setFs E (putF ⟨s, f.bs.take n, min n f.sf⟩ E.fs)) r (updT tb s (p, sl.cut 0 n n 1)) (fun x => F x ∨ u.heap.size <= x) /\ OnlyP F u u') u ?_)
 unfold v3v
 intro w0 hO0
 have c2 := hO0.blk hB2 (by simp)
 have c0 := hO0.blk hB0 (by simp)
 have h0 := h.only0 hO0
 have hF := h0.fil s p sl f ht hf
 have hfb := hF.blk
 have hln := hF.row.sl.len
 have hcp := hF.row.sl.cap
 have q2 : Cells w0 ⟨k2, 0, none⟩ [.pointer (some ⟨p, 0, none⟩)] := Blk.at1 c2 0 rfl
 have q0 : Cells w0 ⟨k0, 0, none⟩ [.int .i64 (n : Int)] := Blk.at1 c0 0 rfl
 have hpF : F p := (h.out s p ⟨p, sl, ht, .inl rfl⟩).2.2
 have kk : ∀ {u u' : World}, Only [p] u u' -> Keeps (fun k => k = k2 ∨ k = k0) u u' := fun hO k hk hlt => hO.block k hlt (by simp; omega)
 refine ⟨fun k => k = k2 ∨ k = k0, _, q2, .inl rfl, _, q2, _, q2, _, rfl, _, Blk.at1 hfb 0 rfl, _, q0, _, q0, n, n, ⟨rfl, rfl, Nat.le_refl _, by omega⟩, _, q2, _, rfl, _, Blk.at1 hfb 1 rfl, .inr rfl, _, q0, _, rfl, p, 0, _, _, rfl, hfb, by simp, fun w1 hO1 hB1 => ⟨kk hO1, _, rfl, p, 1, _, _, rfl, hB1, by simp [splice], fun w2 hO2 hB2 => ⟨kk hO2, rfl, ?_, ?_⟩⟩⟩
 · have o : Only [p] w0 w2 := hO1.trans hO2 fun x hx => .inl hx
   have hB2' : Blk w2 p 66 [(sl.cut 0 n n 1).v, .int .i64 ((min n f.sf : Nat) : Int)] := by
    have e : (if (n : Int) < (f.sf : Int) then (n : Int) else (f.sf : Int)) = ((min n f.sf : Nat) : Int) := by split <;> omega
    rw [e] at hB2
    exact hB2
   have hca : ∀ x, (sl.cut 0 n n 1).a = some ⟨x, 0, none⟩ -> sl.a = some ⟨x, 0, none⟩ := fun x hx => by
    unfold Sl.cut at hx
    dsimp only at hx
    rw [Nat.zero_mul] at hx
    split at hx
    · exact hx
    · cases ha : sl.a with
      | none => rw [ha] at hx; cases hx
      | some g => rw [ha] at hx; simpa [addr_zero] using hx
   have hrow : RowB w2 (sl.cut 0 n n 1) (f.bs.take n) := (hF.row.cut (by omega)).keep fun x hx hlt => o.block x hlt (by simp only [List.mem_singleton]; rintro rfl; exact hF.ne (hca _ hx))
   have hsum := sum_same (s := s) h0.inv.rise hf (f' := ⟨s, f.bs.take n, min n f.sf⟩) rfl (by dsimp only; rw [List.length_take]; omega)
   have := h0.setFile (f' := ⟨s, f.bs.take n, min n f.sf⟩) (s' := sl.cut 0 n n 1) ht rfl (o.p fun b hb => .inl (.inl (by simpa using hb))) ⟨hB2', hrow, fun hx => hF.ne (hca _ hx)⟩ (fun x hx => .inl (hca x hx))
    (h0.inv.put (by dsimp only; rw [List.length_take]; have := h0.inv.safe f (lookF_mem hf).1; omega) (by have := h0.inv.nam f (lookF_mem hf).1; rw [(lookF_mem hf).2] at this; exact this) (Nat.le_trans hsum h0.inv.sum))
   exact this.mono fun x _ hx => hx.imp id fun h => Nat.le_trans hO0.size h
 · exact hO0.trP ((hO1.trans hO2 fun x hx => .inl hx).p fun b hb => .inl (by simp at hb; rw [hb]; exact hpF))
def Aft (d : Nat) (D' : Dk) (F : Nat -> Prop) (w w' : World) : Prop := Dsk w' d D' (Gr F w w') /\ OnlyP F w w'
theorem Aft.mono {D' : Dk} (h : Aft d D' F w w') (hF : ∀ x, F x -> G x) : Aft d D' G w w' := by
 obtain ⟨⟨r, tb, h1⟩, h2⟩ := h
 exact ⟨⟨r, tb, h1.mono fun x _ hx => hx.imp (hF x) id⟩, h2.mono fun k _ hk => hF k hk⟩
theorem DkP.heap (h : DkP w d D r tb F) : DkP w d D r tb (fun x => F x /\ x < w.heap.size) := h.mono fun x hx hf => ⟨hf, hx⟩
theorem Aft.same (h : DkP w d D r tb F) (hO : Only [] w w') : Aft d D F w w' := ⟨Dsk.gr0 (h.only0 hO), hO.p0⟩
theorem sync_c (h : DkP w d D r tb F) (s : List UInt8) : Calls Try.prog 14 #[.pointer (some ⟨d, 0, none⟩), .string (T s)] w fun e w' => e = .returned (.int .i64 (syncD D s).1) /\ Aft d (syncD D s).2 F w w' := by
 refine ret (v13w ⟨d, 0, none⟩ (T s) (fun v w' => v = .int .i64 (syncD D s).1 /\ Aft d (syncD D s).2 F w w') w ?_)
 unfold v13v
 refine (find_c h s).mono ?_
 rintro _ w0 ⟨⟨q, rfl, hq⟩, hu⟩
 obtain rfl : w = w0 := hu.symm
 refine ⟨_, _, rfl, fun hc => ?_, fun hc => ?_⟩
 · have hc : findE D s ≠ 0 := by simpa using hc
   have e : syncD D s = (findE D s, D) := by unfold syncD; rw [if_pos hc]
   rw [e]
   exact ⟨rfl, Aft.same h (Only.refl _ _)⟩
 · have hc : findE D s = 0 := by simpa using hc
   obtain ⟨ho, p, sl, f, ht, hf, rfl, hF⟩ := hq hc
   refine (pcut_c h).mono ?_
   rintro _ w1 ⟨rfl, h1, hO1⟩
   have eg := getF_some hf
   obtain ⟨e1, e2⟩ := cutP_fs D
   have e : syncD D s = (codeP D, if (cutP D).1.isSome then (cutP D).2 else setFs (cutP D).2 (putF { f with sf := f.bs.length } (cutP D).2.fs)) := by
    unfold syncD codeP
    rw [if_neg (by simpa using hc), eg]
    rcases cutP D with ⟨g, E⟩
    cases g <;> rfl
   have odF : OnlyP F w w1 := hO1.p fun b hb => .inl (by simp at hb; rw [hb]; exact h.dr.2.1)
   rw [e]
   unfold codeP
   refine ⟨_, _, rfl, fun hb => ?_, fun hb => ?_⟩
   · rw [if_pos hb, if_pos hb]
     exact ⟨rfl, Dsk.gr0 h1, odF⟩
   · rw [if_neg (by rw [hb]; simp), if_neg (by rw [hb]; simp)]
     have hf1 : lookF (cutP D).2.fs s = some f := by rw [e1]; exact hf
     have hF1 := h1.fil s p sl f ht hf1
     refine ⟨_, rfl, _, Blk.at1 hF1.blk 0 rfl, _, rfl, p, 1, _, _, rfl, hF1.blk, by simp, fun w2 hO2 hB2 => ⟨rfl, ?_⟩⟩
     have hB2' : Blk w2 p 66 [sl.v, .int .i64 ((f.bs.length : Nat) : Int)] := by rw [<- hF1.row.sl.len]; exact hB2
     have hnm := (lookF_mem hf).2
     have := h1.setFile (f' := { f with sf := f.bs.length }) (s' := sl) ht hnm (hO2.p fun b hb => .inl (.inl (by simpa using hb))) ⟨hB2', hF1.row.keep fun x hx hlt => hO2.block x hlt (by simp only [List.mem_singleton]; rintro rfl; exact hF1.ne hx), hF1.ne⟩ (fun x hx => .inl hx)
      (h1.inv.put (Nat.le_refl _) (h1.inv.nam f (lookF_mem hf1).1) (Nat.le_trans (sum_same (s := s) h1.inv.rise hf1 hnm (Nat.le_refl _)) h1.inv.sum))
     exact ⟨Dsk.gr (this.mono fun x _ hx => hx.imp id fun h => Nat.le_trans hO1.size h), odF.trans (hO2.p (F := F) fun b hb => .inl (by simp at hb; rw [hb]; exact (h.out s p ⟨p, sl, ht, .inl rfl⟩).2.2)) fun k hk => .inl hk⟩
theorem cut_c0 (h : DkP w d D r tb F) (hFh : ∀ x, F x -> x < w.heap.size) (s : List UInt8) {n : Int} (hi : InI n) : Calls Try.prog 15 #[.pointer (some ⟨d, 0, none⟩), .string (T s), .int .i64 n] w fun e w' => e = .returned (.int .i64 (cutD D s n).1) /\ Aft d (cutD D s n).2 F w w' := by
 refine ret (v4w ⟨d, 0, none⟩ (T s) n (fun v w' => v = .int .i64 (cutD D s n).1 /\ Aft d (cutD D s n).2 F w w') w ?_)
 unfold v4v
 intro k0 w0 hk0 hk0' hO0
 have z0 := hO0.size
 refine (find_c (h.only0 hO0) s).mono ?_
 rintro _ w1 ⟨⟨q, rfl, hq⟩, hu⟩
 obtain rfl : w0 = w1 := hu.symm
 refine ⟨_, _, rfl, Same.refl _ _, fun hc k1 w2 _ _ hO2 => ?_, fun hc k2 w3 hk2 hk2' hO3 => ?_⟩
 · have hc : findE D s ≠ 0 := by simpa using hc
   have e : cutD D s n = (findE D s, D) := by unfold cutD; rw [if_pos hc]
   rw [e]
   exact ⟨rfl, Aft.same h (hO0.tr0 hO2)⟩
 · have hc : findE D s = 0 := by simpa using hc
   obtain ⟨ho, p, sl, f, ht, hf, rfl, hF⟩ := hq hc
   have z3 := hO3.size
   have o3 := hO0.tr0 hO3
   have h3 := h.only0 o3
   have hF3 := h3.fil s p sl f ht hf
   have eg := getF_some hf
   have hln := hF3.row.sl.len
   have hbg := hF3.row.sl.big
   have hplt : p < w.heap.size := h.lt (k := s) ⟨p, sl, ht, .inl rfl⟩
   refine ⟨_, fun _ => rfl, _, fun _ => Blk.at1 hF3.blk 0 rfl, fun hb w4 hO4 => ?_, fun hb w5 hO5 hB0 hB2 => ?_⟩
   · simp only [Bool.or_eq_true, decide_eq_true_eq] at hb
     have e : cutD D s n = (1, D) := by unfold cutD; rw [if_neg (by simpa using hc), eg, if_pos (by omega)]
     rw [e]
     exact ⟨rfl, Aft.same h (o3.tr0 hO4)⟩
   · simp only [Bool.or_eq_false_iff, decide_eq_false_iff_not] at hb
     have e : cutD D s n = wholeD D fun l => putF ⟨s, f.bs.take n.toNat, min n.toNat f.sf⟩ l := by unfold cutD; rw [if_neg (by simpa using hc), eg, if_neg (by omega)]
     have z5 := hO5.size
     have o5 := o3.tr0 hO5
     have h5 := h.only0 o5
     obtain ⟨e1, e2⟩ := cutP_fs D
     obtain ⟨n, rfl⟩ : ∃ m : Nat, n = (m : Int) := ⟨n.toNat, by omega⟩
     rw [e, wholeD_eq]
     refine (whole_c h5 (g := 33) (caps := [.pointer (some ⟨k2, 0, none⟩), .pointer (some ⟨k0, 0, none⟩)]) (Q := fun u' => DkP u' d (setFs (cutP D).2 (putF ⟨s, f.bs.take n, min n f.sf⟩ (cutP D).2.fs)) r (updT tb s (p, sl.cut 0 n n 1)) (fun x => F x ∨ w5.heap.size <= x) /\ OnlyP F w5 u' /\ Blk u' k0 3 [.int .i64 (n : Int)] /\ Blk u' k2 64 [.pointer (some ⟨p, 0, none⟩)]) (enters_of Try.func33 (by kernel_rfl) rfl) fun u hu hOu => ?_).mono ?_
     · have nd0 : k0 ≠ d := fun e => by have := h.dlt; omega
       have nd2 : k2 ≠ d := fun e => by have := h.dlt; omega
       have hb0 := hOu.blk hB0 (by simpa using nd0)
       have hb2 := hOu.blk hB2 (by simpa using nd2)
       have zu := hOu.size
       have oF : OnlyP F w5 u := hOu.p fun b hb => .inl (by simp at hb; rw [hb]; exact h.dr.2.1)
       refine (cutcl_c hu ht (by rw [e1]; exact hf) (by omega) hb2 hb0 (by omega) (by omega)).mono ?_
       rintro _ u' ⟨rfl, y1, y2⟩
       refine ⟨rfl, y1.mono fun x _ hx => hx.imp id fun h => Nat.le_trans zu h, oF.trans y2 fun k hk => .inl hk, ?_, ?_⟩
       · have : OnlyP F w5 u' := oF.trans y2 fun k hk => .inl hk
         exact this.blk hB0 fun hh => by have := hFh _ hh; omega
       · have : OnlyP F w5 u' := oF.trans y2 fun k hk => .inl hk
         exact this.blk hB2 fun hh => by have := hFh _ hh; omega
     · rintro _ w6 ⟨rfl, hif⟩
       refine ⟨_, rfl, ?_⟩
       by_cases hg : goesP D = true
       · rw [if_pos hg] at hif ⊢
         obtain ⟨y1, y2, y3, y4⟩ := hif
         exact ⟨_, y3, _, y4, rfl, Dsk.gr (y1.mono fun x _ hx => hx.imp id fun h => by omega), o5.trP y2⟩
       · rw [if_neg hg] at hif ⊢
         obtain ⟨y1, y2⟩ := hif
         exact ⟨_, y2.blk hB0 (by simp; have := h.dlt; omega), _, y2.blk hB2 (by simp; have := h.dlt; omega), rfl, Dsk.gr0 y1, o5.trP (y2.p fun b hb => .inl (by simp at hb; rw [hb]; exact h.dr.2.1))⟩
theorem cut_c (h : DkP w d D r tb F) (s : List UInt8) {n : Int} (hi : InI n) : Calls Try.prog 15 #[.pointer (some ⟨d, 0, none⟩), .string (T s), .int .i64 n] w fun e w' => e = .returned (.int .i64 (cutD D s n).1) /\ Aft d (cutD D s n).2 F w w' :=
 (cut_c0 h.heap (fun _ hx => hx.2) s hi).mono fun _ _ hh => ⟨hh.1, hh.2.mono fun _ hx => hx.1⟩
theorem remcl_c {u : World} (h : DkP u d E r tb F) (s : List UInt8) {k0 k1 : Nat} {t0 t1 : TypeId} (hB0 : Blk u k0 t0 [.pointer (some ⟨d, 0, none⟩)]) (hB1 : Blk u k1 t1 [.string (T s)]) :
  Calls Try.prog 35 #[.pointer (some ⟨k0, 0, none⟩), .pointer (some ⟨k1, 0, none⟩)] u fun e u' => e = .returned (.tuple #[]) /\ DkP u' d (setFs E (dropF s E.fs)) r (fun x => if x = s then none else tb x) F /\ OnlyP F u u' := by
 refine ret (v9w ⟨k0, 0, none⟩ ⟨k1, 0, none⟩ (fun v u' => v = .tuple #[] /\ DkP u' d (setFs E (dropF s E.fs)) r (fun x => if x = s then none else tb x) F /\ OnlyP F u u') u ?_)
 unfold v9v
 intro w0 hO0
 have h0 := h.only0 hO0
 have q0 : Cells w0 ⟨k0, 0, none⟩ [.pointer (some ⟨d, 0, none⟩)] := Blk.at1 (hO0.blk hB0 (by simp)) 0 rfl
 have q1 : Cells w0 ⟨k1, 0, none⟩ [.string (T s)] := Blk.at1 (hO0.blk hB1 (by simp)) 0 rfl
 obtain ⟨w1, e1, e2, e3⟩ := h0.map.delete (P := Try.prog) (mty := 28) (kt := 9) (et := 64) keyS (by kernel_rfl) (by kernel_rfl) s 0
 exact ⟨_, q0, _, rfl, _, h0.mp, _, q1, w1, e1, rfl, h0.delKey e3 e2, hO0.trP (e3.p fun b hb => .inl (by simp at hb; rw [hb]; exact h.dr.2.2))⟩
theorem remove_c0 (h : DkP w d D r tb F) (hFh : ∀ x, F x -> x < w.heap.size) (s : List UInt8) : Calls Try.prog 17 #[.pointer (some ⟨d, 0, none⟩), .string (T s)] w fun e w' => e = .returned (.int .i64 (remD D s).1) /\ Aft d (remD D s).2 F w w' := by
 refine ret (v10w ⟨d, 0, none⟩ (T s) (fun v w' => v = .int .i64 (remD D s).1 /\ Aft d (remD D s).2 F w w') w ?_)
 unfold v10v
 intro k0 k1 w0 hk0 hk0' hk1 hk1' hO0
 have z0 := hO0.size
 refine (find_c (h.only0 hO0) s).mono ?_
 rintro _ w1 ⟨⟨q, rfl, hq⟩, hu⟩
 obtain rfl : w0 = w1 := hu.symm
 refine ⟨_, _, rfl, Same.refl _ _, fun hc => ?_, fun hc hB0 hB1 => ?_⟩
 · have hc : findE D s ≠ 0 := by simpa using hc
   have e : remD D s = (findE D s, D) := by unfold remD; rw [if_pos hc]
   rw [e]
   exact ⟨rfl, Aft.same h hO0⟩
 · have hc : findE D s = 0 := by simpa using hc
   have e : remD D s = wholeD D fun l => dropF s l := by unfold remD; rw [if_neg (by simpa using hc)]
   have h0 := h.only0 hO0
   rw [e, wholeD_eq]
   refine (whole_c h0 (g := 35) (caps := [.pointer (some ⟨k0, 0, none⟩), .pointer (some ⟨k1, 0, none⟩)]) (Q := fun u' => DkP u' d (setFs (cutP D).2 (dropF s (cutP D).2.fs)) r (fun x => if x = s then none else tb x) F /\ OnlyP F w0 u') (enters_of Try.func35 (by kernel_rfl) rfl) fun u hu hOu => ?_).mono ?_
   · have hb0 := hOu.blk hB0 (by simp; have := h.dlt; omega)
     have hb1 := hOu.blk hB1 (by simp; have := h.dlt; omega)
     refine (remcl_c hu s hb0 hb1).mono ?_
     rintro _ u' ⟨rfl, y1, y2⟩
     exact ⟨rfl, y1, (hOu.p fun b hb => .inl (by simp at hb; rw [hb]; exact h.dr.2.1)).trans y2 fun k hk => .inl hk⟩
   · rintro _ w6 ⟨rfl, hif⟩
     refine ⟨_, rfl, ?_⟩
     by_cases hg : goesP D = true
     · rw [if_pos hg] at hif ⊢
       obtain ⟨y1, y2⟩ := hif
       exact ⟨_, y2.blk hB0 (fun hh => by have := hFh _ hh; omega), _, y2.blk hB1 (fun hh => by have := hFh _ hh; omega), rfl, Dsk.gr0 y1, hO0.trP y2⟩
     · rw [if_neg hg] at hif ⊢
       obtain ⟨y1, y2⟩ := hif
       exact ⟨_, y2.blk hB0 (by simp; have := h.dlt; omega), _, y2.blk hB1 (by simp; have := h.dlt; omega), rfl, Dsk.gr0 y1, hO0.trP (y2.p fun b hb => .inl (by simp at hb; rw [hb]; exact h.dr.2.1))⟩
theorem remove_c (h : DkP w d D r tb F) (s : List UInt8) : Calls Try.prog 17 #[.pointer (some ⟨d, 0, none⟩), .string (T s)] w fun e w' => e = .returned (.int .i64 (remD D s).1) /\ Aft d (remD D s).2 F w w' :=
 (remove_c0 h.heap (fun _ hx => hx.2) s).mono fun _ _ hh => ⟨hh.1, hh.2.mono fun _ hx => hx.1⟩
end
section
variable {w w' : World} {d r : Nat} {D E : Dk} {tb : Tb} {F G : Nat -> Prop} {p : Nat} {sl : Sl} {f : Fl} {a b s : List UInt8}
theorem gS_of {s : List UInt8} (h : nameK s = true) : gS s := by
 unfold nameK at h
 simp only [Bool.and_eq_true, decide_eq_true_eq] at h
 have : maxLen = 9223372036854775807 := rfl
 show s.length <= maxLen
 omega
theorem rencl_c {u : World} (h : DkP u d E r tb F) (ht : tb a = some (p, sl)) (hf : lookF E.fs a = some f) (hab : a ≠ b) (hb : nameK b = true) {k0 k1 k2 k3 : Nat} {t0 t1 t2 t3 : TypeId} (hB0 : Blk u k0 t0 [.pointer (some ⟨d, 0, none⟩)]) (hB1 : Blk u k1 t1 [.string (T a)])
  (hB2 : Blk u k2 t2 [.pointer (some ⟨p, 0, none⟩)]) (hB3 : Blk u k3 t3 [.string (T b)]) (hn : k0 ≠ r /\ k1 ≠ r /\ k2 ≠ r /\ k3 ≠ r) :
  Calls Try.prog 34 #[.pointer (some ⟨k0, 0, none⟩), .pointer (some ⟨k1, 0, none⟩), .pointer (some ⟨k2, 0, none⟩), .pointer (some ⟨k3, 0, none⟩)] u fun e u' => e = .returned (.tuple #[]) /\ DkP u' d (setFs E (putF { f with nm := b } (dropF a E.fs))) r (updT (fun x => if x = a then none else tb x) b (p, sl)) F /\ OnlyP F u u' := by
 refine ret (v11w ⟨k0, 0, none⟩ ⟨k1, 0, none⟩ ⟨k2, 0, none⟩ ⟨k3, 0, none⟩ (fun v u' => v = .tuple #[] /\ DkP u' d (setFs E (putF { f with nm := b } (dropF a E.fs))) r (updT (fun x => if x = a then none else tb x) b (p, sl)) F /\ OnlyP F u u') u ?_)
 unfold v11v
 intro w0 hO0
 have h0 := h.only0 hO0
 have q0 : Cells w0 ⟨k0, 0, none⟩ [.pointer (some ⟨d, 0, none⟩)] := Blk.at1 (hO0.blk hB0 (by simp)) 0 rfl
 have q1 : Cells w0 ⟨k1, 0, none⟩ [.string (T a)] := Blk.at1 (hO0.blk hB1 (by simp)) 0 rfl
 obtain ⟨w1, e1, e2, e3⟩ := h0.map.delete (P := Try.prog) (mty := 28) (kt := 9) (et := 64) keyS (by kernel_rfl) (by kernel_rfl) a 0
 refine ⟨_, q0, _, rfl, _, h0.mp, _, q1, w1, e1, fun w2 hO2 => ?_⟩
 have h1 := h0.delKey e3 e2
 have h2 := h1.only0 hO2
 have o2 : Only [r] u w2 := ((hO0.weaken (bs' := [r]) fun _ h => by cases h).trans e3 fun x hx => .inl hx).tr0 hO2
 have p0 : Cells w2 ⟨k0, 0, none⟩ [.pointer (some ⟨d, 0, none⟩)] := Blk.at1 (o2.blk hB0 (by simp [hn.1])) 0 rfl
 have p2 : Cells w2 ⟨k2, 0, none⟩ [.pointer (some ⟨p, 0, none⟩)] := Blk.at1 (o2.blk hB2 (by simp [hn.2.2.1])) 0 rfl
 have p3 : Cells w2 ⟨k3, 0, none⟩ [.string (T b)] := Blk.at1 (o2.blk hB3 (by simp [hn.2.2.2])) 0 rfl
 obtain ⟨w3, g1, g2, g3⟩ := h2.map.update (P := Try.prog) (mty := 28) (kt := 9) (et := 64) (k := b) keyS (by kernel_rfl) (by kernel_rfl) (gS_of hb) (.pointer (some ⟨p, 0, none⟩))
 have hF2 := ((h.fil a p sl f ht hf).keep (w' := w2) fun x hx hlt => o2.block x hlt (by simpa using (h.out a x ⟨p, sl, ht, hx⟩).2.1)).keep (w' := w3) fun x hx hlt => g3.block x hlt (by simpa using (h.out a x ⟨p, sl, ht, hx⟩).2.1)
 have hsum : sumF (putF { f with nm := b } (dropF a E.fs)) <= E.room := by
  have s1 := putF_sum { f with nm := b } (dropF_rise a h.inv.rise)
  have s2 := dropF_sum h.inv.rise hf
  have s3 := h.inv.sum
  dsimp only at s1
  omega
 have := h2.addKey (G := F) (f := { f with nm := b }) g3 rfl (fun _ h => h) g2 ⟨hF2.blk, hF2.row, hF2.ne⟩ (fun x hx => ⟨(h.out a x ⟨p, sl, ht, hx⟩).1, (h.out a x ⟨p, sl, ht, hx⟩).2.1, (h.out a x ⟨p, sl, ht, hx⟩).2.2, fun l hl hin => by
   obtain ⟨q, t, e, hq⟩ := hin
   dsimp only at e
   split at e
   · cases e
   · rename_i hla
     exact hla (h.dis l a x ⟨q, t, e, hq⟩ ⟨p, sl, ht, hx⟩)⟩) (h2.inv.put (h.inv.safe f (lookF_mem hf).1) hb hsum)
 refine ⟨_, p0, _, rfl, _, h2.mp, _, p3, _, p2, w3, g1, rfl, this, ?_⟩
 exact (o2.p (F := F) fun x hx => .inl (by simp at hx; rw [hx]; exact h.dr.2.2)).trans (g3.p (F := F) fun x hx => .inl (by simp at hx; rw [hx]; exact h.dr.2.2)) fun k hk => .inl hk
theorem rename_c0 (h : DkP w d D r tb F) (hFh : ∀ x, F x -> x < w.heap.size) (a b : List UInt8) : Calls Try.prog 16 #[.pointer (some ⟨d, 0, none⟩), .string (T a), .string (T b)] w fun e w' => e = .returned (.int .i64 (renD D a b).1) /\ Aft d (renD D a b).2 F w w' := by
 refine ret (v12w ⟨d, 0, none⟩ (T a) (T b) (fun v w' => v = .int .i64 (renD D a b).1 /\ Aft d (renD D a b).2 F w w') w ?_)
 unfold v12v
 intro k0 k1 k2 w0 hk0 hk0' hk1 hk1' hk2 hk2' hO0
 have z0 := hO0.size
 refine (find_c (h.only0 hO0) a).mono ?_
 rintro _ w1 ⟨⟨q, rfl, hq⟩, hu⟩
 obtain rfl : w0 = w1 := hu.symm
 refine ⟨_, _, rfl, Same.refl _ _, fun hc k3 w2 _ _ hO2 => ?_, fun hc k4 w3 hk4 hk4' hO3 => (name_c b).mono ?_⟩
 · have hc : findE D a ≠ 0 := by simpa using hc
   have e : renD D a b = (findE D a, D) := by unfold renD; rw [if_pos hc]
   rw [e]
   exact ⟨rfl, Aft.same h (hO0.tr0 hO2)⟩
 · rintro _ w4 ⟨rfl, hu⟩
   obtain rfl : w3 = w4 := hu.symm
   have hc : findE D a = 0 := by simpa using hc
   obtain ⟨ho, p, sl, f, ht, hf, rfl, hF⟩ := hq hc
   have eg := getF_some hf
   have z3 := hO3.size
   have o3 := hO0.tr0 hO3
   have eab : ((T a).toList == (T b).toList) = decide (a = b) := by
    rw [Lib.toList_data, Lib.toList_data, Bool.eq_iff_iff]
    simp
   refine ⟨_, rfl, Same.refl _ _, fun hb => ?_, fun hb hB0 hB1 hB2 hB4 => ?_⟩
   · rw [eab] at hb
     simp only [Bool.or_eq_true, Bool.not_eq_true', decide_eq_true_eq] at hb
     have e : renD D a b = (1, D) := by unfold renD; rw [if_neg (by simpa using hc), if_pos hb]
     rw [e]
     exact ⟨rfl, Aft.same h o3⟩
   · rw [eab] at hb
     simp only [Bool.or_eq_false_iff, Bool.not_eq_false', decide_eq_false_iff_not] at hb
     have e : renD D a b = wholeD D fun l => putF { f with nm := b } (dropF a l) := by unfold renD; rw [if_neg (by simpa using hc), if_neg (by simp [hb.1, hb.2]), eg]
     obtain ⟨e1, e2⟩ := cutP_fs D
     have h3 := h.only0 o3
     have rlt := h.map.lt
     rw [e, wholeD_eq]
     refine (whole_c h3 (g := 34) (caps := [.pointer (some ⟨k0, 0, none⟩), .pointer (some ⟨k1, 0, none⟩), .pointer (some ⟨k4, 0, none⟩), .pointer (some ⟨k2, 0, none⟩)]) (Q := fun u' => DkP u' d (setFs (cutP D).2 (putF { f with nm := b } (dropF a (cutP D).2.fs))) r (updT (fun x => if x = a then none else tb x) b (p, sl)) F /\ OnlyP F w3 u') (enters_of Try.func34 (by kernel_rfl) rfl) fun u hu hOu => ?_).mono ?_
     · have dl := h.dlt
       refine (rencl_c hu ht (by rw [e1]; exact hf) hb.2 hb.1 (hOu.blk hB0 (by simp; omega)) (hOu.blk hB1 (by simp; omega)) (hOu.blk hB4 (by simp; omega)) (hOu.blk hB2 (by simp; omega)) (by omega)).mono ?_
       rintro _ u' ⟨rfl, y1, y2⟩
       exact ⟨rfl, y1, (hOu.p fun b hb => .inl (by simp at hb; rw [hb]; exact h.dr.2.1)).trans y2 fun k hk => .inl hk⟩
     · rintro _ w6 ⟨rfl, hif⟩
       refine ⟨_, rfl, ?_⟩
       have dl := h.dlt
       by_cases hg : goesP D = true
       · rw [if_pos hg] at hif ⊢
         obtain ⟨y1, y2⟩ := hif
         exact ⟨_, y2.blk hB0 (fun hh => by have := hFh _ hh; omega), _, y2.blk hB1 (fun hh => by have := hFh _ hh; omega), _, y2.blk hB2 (fun hh => by have := hFh _ hh; omega), _, y2.blk hB4 (fun hh => by have := hFh _ hh; omega), rfl, Dsk.gr0 y1, o3.trP y2⟩
       · rw [if_neg hg] at hif ⊢
         obtain ⟨y1, y2⟩ := hif
         exact ⟨_, y2.blk hB0 (by simp; omega), _, y2.blk hB1 (by simp; omega), _, y2.blk hB2 (by simp; omega), _, y2.blk hB4 (by simp; omega), rfl, Dsk.gr0 y1, o3.trP (y2.p fun b hb => .inl (by simp at hb; rw [hb]; exact h.dr.2.1))⟩
theorem rename_c (h : DkP w d D r tb F) (a b : List UInt8) : Calls Try.prog 16 #[.pointer (some ⟨d, 0, none⟩), .string (T a), .string (T b)] w fun e w' => e = .returned (.int .i64 (renD D a b).1) /\ Aft d (renD D a b).2 F w w' :=
 (rename_c0 h.heap (fun _ hx => hx.2) a b).mono fun _ _ hh => ⟨hh.1, hh.2.mono fun _ hx => hx.1⟩
theorem read_c (h : DkP w d D r tb F) (s : List UInt8) (hm : sumF D.fs <= 140737488355328) : Calls Try.prog 44 #[.pointer (some ⟨d, 0, none⟩), .string (T s)] w fun e w' => (∃ t : Sl, e = .returned (.tuple #[t.v, .int .i64 (findE D s)]) /\ Own rByte 1 5 w.heap.size w' (fun _ => False) t (readD D s)) /\ Only [] w w' := by
 refine (v8w ⟨d, 0, none⟩ (T s) (fun v w' => (∃ t : Sl, v = .tuple #[t.v, .int .i64 (findE D s)] /\ Own rByte 1 5 w.heap.size w' (fun _ => False) t (readD D s)) /\ Only [] w w') w ?_).mono (by
  rintro _ w' ⟨v, rfl, ⟨t, rfl, h⟩, h'⟩; exact ⟨⟨t, rfl, h⟩, h'⟩)
 unfold v8v
 refine (find_c h s).mono ?_
 rintro _ w0 ⟨⟨q, rfl, hq⟩, hu⟩
 obtain rfl : w = w0 := hu.symm
 refine ⟨_, _, rfl, fun hc => ?_, fun hc => ?_⟩
 · have hc : findE D s ≠ 0 := by simpa using hc
   have e : readD D s = [] := by unfold readD; rw [if_pos hc]
   rw [e]
   exact ⟨⟨Sl.nil, rfl, Own.nil _ _ _ _ _ _⟩, Only.refl _ _⟩
 · have hc : findE D s = 0 := by simpa using hc
   obtain ⟨ho, p, sl, f, ht, hf, rfl, hF⟩ := hq hc
   have e : readD D s = f.bs := by unfold readD; rw [if_neg (by simpa using hc), getF_some hf]
   have := sumF_mem (lookF_mem hf).1
   rw [e, hc]
   refine ⟨_, rfl, _, Blk.at1 hF.blk 0 rfl, (bclone_c hF.row.sl (by omega)).mono ?_⟩
   rintro _ w1 ⟨⟨t, rfl, ho⟩, hO⟩
   exact ⟨t, rfl, ⟨t, rfl, ho⟩, hO⟩
theorem arm_c (h : DkP w d D r tb F) {n q : Int} (hi : InI n) : Calls Try.prog 9 #[.pointer (some ⟨d, 0, none⟩), .int .i64 n, .int .i64 q] w fun e w' => e = .returned (.tuple #[]) /\ DkP w' d (armD D n q) r tb F /\ Only [d] w w' := by
 refine ret (v19w ⟨d, 0, none⟩ n q (fun v w' => v = .tuple #[] /\ DkP w' d (armD D n q) r tb F /\ Only [d] w w') w ?_)
 unfold v19v
 obtain ⟨a0, b0, c0, hb, _⟩ := h.blk
 refine ⟨d, 1, _, _, rfl, hb, by simp, fun w0 hO0 hB0 => ⟨d, 2, _, _, rfl, hB0, by simp [splice], fun w1 hO1 hB1 => ⟨d, 3, _, _, rfl, hB1, by simp [splice], fun w2 hO2 hB2 => ?_⟩⟩⟩
 have o : Only [d] w w2 := (hO0.trans hO1 fun x hx => .inl hx).trans hO2 fun x hx => .inl hx
 refine ⟨rfl, h.power o (off := D.off) (pw := if 0 <= n then some (n.toNat, q) else none) (armed := decide (n >= 0)) (acts := n) (part := q) hB2 ?_, o⟩
 unfold Pw
 obtain ⟨hi1, hi2⟩ := hi
 by_cases hn : 0 <= n
 · simp only [if_pos hn]
   exact ⟨decide_eq_true hn, by omega, trivial, by omega⟩
 · simp only [if_neg hn]
   exact decide_eq_false hn
theorem up_c (h : DkP w d D r tb F) : Calls Try.prog 11 #[.pointer (some ⟨d, 0, none⟩)] w fun e w' => e = .returned (.bool (!D.off)) /\ w' = w := by
 refine ret (v20w ⟨d, 0, none⟩ (fun v w' => v = .bool (!D.off) /\ w' = w) w ?_)
 unfold v20v
 exact ⟨_, h.off, rfl, rfl⟩
def newD (room : Int) : Dk := ⟨[], false, none, room.toNat⟩
theorem new_c (w : World) {room : Int} (hi : InI room) : Calls Try.prog 8 #[.int .i64 room] w fun e w' => ∃ d, e = .returned (.pointer (some ⟨d, 0, none⟩)) /\ Dsk w' d (newD room) (fun k => w.heap.size <= k /\ k < w'.heap.size) /\ Only [] w w' := by
 refine (v16w room (fun v w' => ∃ d, v = .pointer (some ⟨d, 0, none⟩) /\ Dsk w' d (newD room) (fun k => w.heap.size <= k /\ k < w'.heap.size) /\ Only [] w w') w ?_).mono (by
  rintro _ w' ⟨v, rfl, d, rfl, h⟩; exact ⟨d, rfl, h⟩)
 unfold v16v
 obtain ⟨hm0, hM0, hO0⟩ := MapV.make (P := Try.prog) (mty := 28) (kv := kS) (g := gS) w
 refine ⟨_, _, hm0, fun k0 w1 hk0 hk0' hO1 hB => ⟨k0, rfl, ⟨w.heap.size, fun _ => none, ?_⟩, hO0.tr0 hO1⟩⟩
 have z0 := hM0.lt
 have z1 := hO1.size
 have er : (if 0 > room then 0 else room) = ((room.toNat : Nat) : Int) := by split <;> omega
 rw [er] at hB
 obtain ⟨hi1, hi2⟩ := hi
 exact ⟨⟨false, 0, 0, hB, rfl⟩, (hM0.only hO1 (by simp)).ext fun k => rfl, fun k => ⟨fun _ => rfl, fun _ => rfl⟩, fun k p s f h => (by cases h), fun k l x ⟨p, s, h, _⟩ => (by cases h), fun k x ⟨p, s, h, _⟩ => (by cases h), ⟨by omega, ⟨by omega, hk0'⟩, ⟨Nat.le_refl _, by omega⟩⟩,
  ⟨.nil, fun f h => (by cases h), fun f h => (by cases h), Nat.zero_le _, by show room.toNat <= _; omega⟩⟩
end
def rBs : Rp (List UInt8) := fun w F l cs => ∃ sl : Sl, cs = [sl.v] /\ SliceF rByte 1 w F sl l
theorem rBs_ok : rBs.Ok where
 keep := fun ⟨sl, h1, h2⟩ hk => ⟨sl, h1, SliceF.keep rByte_ok h2 (by decide) hk⟩
 inHeap := fun ⟨sl, h1, h2⟩ => ⟨sl, h1, SliceF.inHeap rByte_ok h2 (by decide)⟩
 mono := fun ⟨sl, h1, h2⟩ hk => ⟨sl, h1, SliceF.mono rByte_ok h2 hk⟩
 one := fun ⟨sl, h1, h2⟩ v hv => by subst h1; simp only [List.mem_singleton] at hv; subst hv; rfl
theorem join_flat : ∀ ls : List (List UInt8), Lib.join ls [] = ls.flatten
 | [] => rfl
 | [x] => by rw [Lib.join_one]; simp
 | x :: y :: r => by
  have := join_flat (y :: r)
  rw [Lib.join] at this ⊢
  simp only [List.intercalate, List.intersperse] at this ⊢
  rw [List.flatten_cons, List.flatten_cons, List.flatten_cons, this, List.nil_append]
theorem lens_flat (ls : List (List UInt8)) : Lib.lens ls = ls.flatten.length := by
 induction ls with
 | nil => rfl
 | cons a l ih =>
  rw [List.flatten_cons, List.length_append, <- ih]
  simp [Lib.lens]
theorem fresh_sl {B : Nat} {w : World} {v : Value} {l : List UInt8} (h : Lib.FreshBytes B w v l) : ∃ t : Sl, v = t.v /\ SliceF rByte 1 w (fun k => B <= k) t l := by
 obtain ⟨g, cap, zs, rfl, h1, h2, h3, h4, h5, h6, h7, h8⟩ := h
 refine ⟨⟨some ⟨g, 0, none⟩, l.length, cap⟩, rfl, rfl, h2, fun h => (by cases h), by have : maxLen = 9223372036854775807 := rfl; dsimp only; omega, fun j b hj => ⟨⟨g, 0, none⟩, _, rfl, h1, rfl, ?_, rfl⟩⟩
 have hjl := (List.getElem?_eq_some_iff.1 hj).1
 rw [Nat.mul_one, addr_lit, Nat.zero_add]
 intro i v hi
 have hi0 : i = 0 := by
  have := (List.getElem?_eq_some_iff.1 hi).1
  simp at this
  omega
 subst hi0
 simp only [List.getElem?_cons_zero, Option.some.injEq] at hi
 subst hi
 rw [addr_lit, Nat.add_zero, h7 j (by omega)]
 rw [<- h6] at hj
 have hz : j < (zs.take l.length).length := by rw [List.length_take]; omega
 rw [Lib.bytesOf, List.getElem?_map, List.getElem?_eq_getElem hz, Option.map_some, Option.some.injEq] at hj
 rw [List.getElem_take] at hj
 have hzj : j < zs.length := by omega
 have hx := h5 _ (List.getElem_mem hzj)
 have e : zs.getD j 0 = zs[j] := by rw [List.getD_eq_getElem?_getD, List.getElem?_eq_getElem hzj]; rfl
 rw [e, <- hj]
 show some (Value.int .u8 zs[j]) = some (Value.int .u8 _)
 congr 2
 have h9 : (UInt8.ofNat zs[j].toNat).toNat = zs[j].toNat % 2 ^ 8 := UInt8.toNat_ofNat'
 rw [h9]
 omega
section
variable {w w' : World} {d r : Nat} {D E : Dk} {tb : Tb} {F G : Nat -> Prop} {p : Nat} {sl : Sl} {f : Fl} {a b s : List UInt8}
theorem holds {sl : Sl} {l : List UInt8} (h : SliceF rByte 1 w G sl l) : Lib.HoldsBytes w sl.v l := by
 refine ⟨sl.a, sl.c, by rw [<- h.len], fun hn => List.eq_nil_of_length_eq_zero (by have := h.nil0 hn; have := h.cap; have := h.len; omega), fun ad ha i x hx => ?_⟩
 obtain ⟨base, cs, g1, g2, g3, g4, g5⟩ := h.at_ i x hx
 rw [ha] at g1
 injection g1 with g1
 subst g1
 have g5 : cs = [byteV x] := g5
 subst g5
 rw [Nat.mul_one] at g4
 have := g4 0 (byteV x) rfl
 exact this
theorem join_c {parts : Sl} {ls : List (List UInt8)} (hp : SliceF rBs 1 w G parts ls) (ha : parts.a = none ∨ ∃ b, parts.a = some ⟨b, 0, none⟩) (hl : ls.flatten.length <= 140737488355328) (hn : ls.length <= 140737488355328) :
  Calls Try.prog 26 #[parts.v, Sl.nil.v] w fun e w' => (∃ t : Sl, e = .returned t.v /\ SliceF rByte 1 w' (fun k => w.heap.size <= k) t ls.flatten) /\ Only [] w w' := by
 have hlen := hp.len
 have hcap := hp.cap
 obtain ⟨css, k1, k2⟩ := hp.flat'
 match ls, hlen, k1 with
 | [], hlen, _ =>
  have e : parts.v = .slice parts.a 0 parts.c := by show Value.slice parts.a parts.n parts.c = _; rw [hlen]; rfl
  rw [e]
  refine (Try.bytes_Join_none parts.a parts.c Sl.nil.v w).mono ?_
  rintro _ w' ⟨rfl, rfl⟩
  exact ⟨⟨⟨some ⟨w.heap.size, 0, none⟩, 0, 0⟩, rfl, rfl, Nat.le_refl _, fun h => (by cases h), Nat.zero_le _, fun j x h => by simp at h⟩, Only.alloc _ _⟩
 | [l0], hlen, k1 =>
  obtain ⟨base, cs, g1, g2, g3, g4, g5⟩ := hp.at_ 0 l0 rfl
  rcases ha with ha | ⟨b, ha⟩
  · rw [ha] at g1; cases g1
  rw [ha] at g1
  injection g1 with g1
  subst g1
  obtain ⟨s0, rfl, hs0⟩ := g5
  rw [Nat.zero_mul] at g4
  have hcell : w.cell? ⟨b, 0, none⟩ = some s0.v := g4 0 _ rfl
  have e : parts.v = .slice (some ⟨b, 0, none⟩) 1 parts.c := by show Value.slice parts.a parts.n parts.c = _; rw [hlen, ha]; rfl
  have hl0 := hs0.len
  rw [e]
  by_cases h0 : l0.length = 0
  · have : l0 = [] := List.eq_nil_of_length_eq_zero h0
    subst this
    have hl0 : s0.n = 0 := hl0
    refine (Try.bytes_Join_one_empty b 0 parts.c s0.a s0.c Sl.nil.v w (by rw [hcell]; show some (Value.slice s0.a s0.n s0.c) = _; rw [hl0])).mono ?_
    rintro _ w' ⟨rfl, rfl⟩
    exact ⟨⟨Sl.nil, rfl, SliceF.nil _ _ _ _⟩, Only.refl _ _⟩
  · obtain ⟨p0, cap, e1, e2, e3⟩ := holds hs0
    have e1 : Value.slice s0.a s0.n s0.c = .slice p0 l0.length cap := e1
    simp only [Value.slice.injEq] at e1
    obtain ⟨rfl, _, rfl⟩ := e1
    cases hq : s0.a with
    | none => exact absurd (e2 hq) (fun h => h0 (by rw [h]; rfl))
    | some ad =>
     simp only [List.flatten_cons, List.flatten_nil, List.append_nil] at hl ⊢
     refine (Try.bytes_Join_one b 0 parts.c ad s0.c l0 Sl.nil.v w (by rw [hcell]; show some (Value.slice s0.a s0.n s0.c) = _; rw [hq, hl0]) (e3 ad hq) (by omega) hl).mono ?_
     rintro _ w' ⟨v, rfl, h1, h2⟩
     obtain ⟨t, rfl, ht⟩ := fresh_sl h1
     exact ⟨⟨t, rfl, ht⟩, Only.of_below h2⟩
 | l0 :: l1 :: r, hlen, k1 =>
  obtain ⟨base, cs, g1, g2, g3, g4, g5⟩ := hp.at_ 0 l0 rfl
  rcases ha with ha | ⟨b, ha⟩
  · rw [ha] at g1; cases g1
  have hce := k2 _ ha
  have e : parts.v = .slice (some ⟨b, 0, none⟩) (l0 :: l1 :: r).length parts.c := by show Value.slice parts.a parts.n parts.c = _; rw [hlen, ha]
  rw [e]
  refine (Try.bytes_Join_many b 0 (l0 :: l1 :: r).length parts.c css.flatten (l0 :: l1 :: r) Sl.nil.v [] w rfl (by simp) ⟨by rw [k1.flen, Nat.mul_one], fun i v hi => hce i v hi, fun i v l hv hl => ?_⟩ (by omega) ⟨none, 0, rfl, fun _ => rfl, fun a h => (by cases h)⟩ hn (by rw [lens_flat]; simpa using hl)).mono ?_
  · obtain ⟨cs, q1, q2, q3⟩ := k1.get hl
    obtain ⟨s0, rfl, hs0⟩ := q3
    have := flat_at k1.sz q1 (show [s0.v][0]? = some s0.v from rfl)
    rw [Nat.mul_one, Nat.add_zero, hv] at this
    injection this with this
    rw [this]
    exact holds hs0
  · rintro _ w' ⟨v, rfl, h1, h2⟩
    rw [join_flat] at h1
    obtain ⟨t, rfl, ht⟩ := fresh_sl h1
    exact ⟨⟨t, rfl, ht⟩, Only.of_below h2⟩
theorem putF_putF (f g : Fl) (h : f.nm = g.nm) : ∀ l : List Fl, putF g (putF f l) = putF g l
 | [] => by
  rw [putF, putF, putF, if_neg (by rw [h]; exact List.lt_irrefl _), if_pos h]
 | a :: r => by
  rw [putF]
  split
  · rename_i hf
    rw [putF, if_neg (by rw [h]; exact List.lt_irrefl _), if_pos h, putF, if_pos (by rw [<- h]; exact hf)]
  · rename_i hf
    split
    · rename_i ha
      rw [putF, if_neg (by rw [h]; exact List.lt_irrefl _), if_pos h, putF, if_neg (by rw [<- h]; exact hf), if_pos (ha.trans h)]
    · rename_i ha
      rw [putF, if_neg (by rw [<- h]; exact hf), if_neg (by rw [<- h]; exact ha), putF_putF f g h r, putF, if_neg (by rw [<- h]; exact hf), if_neg (by rw [<- h]; exact ha)]
theorem look_of {n : Nat} (h : MapV kS gS w r (mT tb) n) (s : List UInt8) : (Instr.lookup 28 (.map (some r)) (.string (T s)) false).run Try.prog w = .ok (.pointer ((tb s).map fun q => ⟨q.1, 0, none⟩)) w := by
 have := h.lookup (P := Try.prog) (mty := 28) (kt := 9) (et := 64) (z := .pointer none) keyS (by kernel_rfl) (by kernel_rfl) (fun w => Try.zeroValue64 w) s
 rw [this, mT]
 cases tb s <;> rfl
theorem sumF_put {l : List Fl} (hr : Rise l) {g f' : Fl} (hn : f'.nm = g.nm) (hl : ((lookF l g.nm).map (·.bs.length)).getD 0 = g.bs.length) : sumF (putF f' l) + g.bs.length = sumF l + f'.bs.length := by
 have := putF_sum f' hr
 rw [hn, hl] at this
 exact this
theorem append_c (h : DkP w d D r tb F) {parts : Sl} {ls : List (List UInt8)} (hp : SliceF rBs 1 w G parts ls) (ha : parts.a = none ∨ ∃ b, parts.a = some ⟨b, 0, none⟩) (hm : sumF D.fs + ls.flatten.length <= 140737488355328) (hn : ls.length <= 140737488355328) (s : List UInt8) :
  Calls Try.prog 10 #[.pointer (some ⟨d, 0, none⟩), .string (T s), parts.v] w fun e w' => e = .returned (.int .i64 (appD D s ls).1) /\ Aft d (appD D s ls).2 F w w' := by
 refine ret (v1w ⟨d, 0, none⟩ (T s) parts (fun v w' => v = .int .i64 (appD D s ls).1 /\ Aft d (appD D s ls).2 F w w') w ?_)
 unfold v1v
 refine ⟨_, h.off, fun ho => ?_, fun ho => (name_c s).mono ?_⟩
 · have e : appD D s ls = (50, D) := by unfold appD; rw [if_pos ho]
   rw [e]
   exact ⟨rfl, Aft.same h (Only.refl _ _)⟩
 rintro _ w0 ⟨rfl, hu⟩
 obtain rfl : w = w0 := hu.symm
 refine ⟨_, rfl, fun hb => ?_, fun hb => (free_c h).mono ?_⟩
 · have hb : nameK s = false := by simpa using hb
   have e : appD D s ls = (1, D) := by unfold appD; rw [if_neg (by rw [ho]; simp), if_pos hb]
   rw [e]
   exact ⟨rfl, Aft.same h (Only.refl _ _)⟩
 rintro _ w1 ⟨rfl, hO1⟩
 have hb : nameK s = true := by simpa using hb
 have z1 := hO1.size
 have hp1 := SliceF.only rBs_ok (by decide) hp hO1 (by simp)
 have hln := hp.len
 have hcp := hp.cap
 have hbg := hp.big
 have i1 := h.inv.sum
 have i2 := h.inv.big
 refine ⟨_, rfl, fun nv x i u => ∃ n : Nat, i = (n : Int) /\ nv + n = ls.length /\ u = w1 /\ x = (D.room : Int) - sumF D.fs - Lib.lens (ls.take n) /\ 0 <= x, ls.length, ⟨0, rfl, rfl, rfl, by simp [Lib.lens], by omega⟩, ?_⟩
 rintro nv x _ w2 ⟨n, rfl, hnv, hu, hx, hx0⟩
 obtain rfl : w1 = w2 := hu.symm
 refine ⟨fun hlt => ?_, fun hge => ?_⟩
 · have hlt : (n : Int) < (parts.n : Int) := of_decide_eq_true hlt
   obtain ⟨ad, l, cs, g1, g2, g3, g4, g5, g6⟩ := hp1.get (Int.natCast_nonneg n) hlt
   rw [Int.toNat_natCast] at g2
   obtain ⟨s0, rfl, hs0⟩ := g6
   have hl0 := hs0.len
   have ht := Lib.lens_take_succ ls n l g2
   refine ⟨ad, g1, s0, g5, fun hc => ?_, fun hc => ⟨nv - 1, by omega, n + 1, by rw [wr' (by omega) (by omega)]; rfl, by omega, rfl, ?_, ?_⟩⟩
   · have hc : (s0.n : Int) > x := of_decide_eq_true hc
     have hle : Lib.lens (ls.take (n + 1)) <= Lib.lens ls := Lib.lens_take_le ls (n + 1)
     rw [lens_flat ls] at hle
     have e : appD D s ls = (52, D) := by unfold appD; rw [if_neg (by rw [ho]; simp), if_neg (by rw [hb]; simp), if_pos (by omega)]
     rw [e]
     exact ⟨rfl, Aft.same h hO1⟩
   · have hc : ¬ (s0.n : Int) > x := of_decide_eq_false hc
     rw [wr' (by omega) (by omega)]
     omega
   · have hc : ¬ (s0.n : Int) > x := of_decide_eq_false hc
     rw [wr' (by omega) (by omega)]
     omega
 have hge : ¬ (n : Int) < (parts.n : Int) := of_decide_eq_false hge
 have hn2 : n = ls.length := by omega
 subst hn2
 rw [List.take_length, lens_flat] at hx
 refine (join_c hp1 ha (by omega) hn).mono ?_
 rintro _ w3 ⟨⟨l1, rfl, hl1⟩, hO3⟩
 have z3 := hO3.size
 have o3 := hO1.tr0 hO3
 have h3 := h.only0 o3
 have hl1 := SliceF.inHeap rByte_ok hl1 (by decide)
 have hl1n := hl1.len
 have hl1c := hl1.cap
 refine ⟨l1, rfl, (pcut_c h3).mono ?_⟩
 rintro _ w4 ⟨rfl, h4, hO4⟩
 have z4 := hO4.size
 obtain ⟨e1, e2⟩ := cutP_fs D
 have hroom : ¬ D.room < sumF D.fs + ls.flatten.length := by omega
 have ea : ∀ ys : List UInt8, ((cutP D).1 = none -> ys = ls.flatten) -> (∀ q, (cutP D).1 = some q -> ys = ls.flatten.take (modI q (ls.flatten.length + 1))) -> appD D s ls = (codeP D, setFs (cutP D).2 (putF { getF D s with bs := (getF D s).bs ++ ys } (cutP D).2.fs)) := fun ys y1 y2 => by
  unfold appD codeP
  rw [if_neg (by rw [ho]; simp), if_neg (by rw [hb]; simp), if_neg hroom]
  rcases hcc : cutP D with ⟨g, E⟩
  rw [hcc] at y1 y2
  cases g with
  | none => rw [y1 rfl]; rfl
  | some q => rw [y2 q rfl]; rfl
 have hl14 : SliceF rByte 1 w4 (fun k => w1.heap.size <= k /\ k < w3.heap.size) l1 ls.flatten := SliceF.only rByte_ok (by decide) hl1 hO4 fun k hk _ hm => by simp at hm; have := h.dlt; omega
 refine ⟨_, _, rfl, fun l2 u => u = w4 /\ ∃ ys, SliceF rByte 1 w4 (fun k => w1.heap.size <= k /\ k < w3.heap.size) l2 ys /\ ys.length <= ls.flatten.length /\ appD D s ls = (codeP D, setFs (cutP D).2 (putF { getF D s with bs := (getF D s).bs ++ ys } (cutP D).2.fs)), ?_, fun hc => ?_, fun hc => ?_⟩
 rotate_left
 · obtain ⟨q, hq⟩ := Option.isSome_iff_exists.1 hc
   have hk := modI_lt q (k := ls.flatten.length + 1) (by omega)
   have ew : IntKind.wrap .i64 ((l1.n : Int) + 1) = ((ls.flatten.length + 1 : Nat) : Int) := by rw [wr' (by omega) (by omega)]; omega
   rw [ew, hq]
   refine (modulo_c q (by omega) (by omega)).mono ?_
   rintro _ w23 ⟨rfl, hu⟩
   obtain rfl : w4 = w23 := hu.symm
   refine ⟨_, rfl, modI q (ls.flatten.length + 1), ⟨rfl, by omega⟩, rfl, ls.flatten.take (modI q (ls.flatten.length + 1)), ?_, by rw [List.length_take]; omega, ea _ (fun h => by rw [hq] at h; cases h) fun q' hq' => by rw [hq] at hq'; injection hq' with hq'; rw [hq']⟩
   have := hl14.cut (lo := 0) (hi := modI q (ls.flatten.length + 1)) (m := l1.c) (by omega) (by omega) (by omega) (by omega)
   rwa [Nat.sub_zero, List.drop_zero] at this
 · have hq : (cutP D).1 = none := by cases hq : (cutP D).1 with
    | none => rfl
    | some q => rw [hq] at hc; cases hc
   exact ⟨rfl, ls.flatten, hl14, Nat.le_refl _, ea _ (fun _ => rfl) fun q hq' => by rw [hq] at hq'; cases hq'⟩
 rintro l2 w5 ⟨hu, ys, hys, hyl, hap⟩
 obtain rfl : w4 = w5 := hu.symm
 rw [hap]
 obtain ⟨E, hE⟩ : ∃ E, (cutP D).2 = E := ⟨_, rfl⟩
 rw [hE] at h4 e1 e2
 simp only [hE]
 have o4 : OnlyP F w w4 := o3.trP (hO4.p fun b hb => .inl (by simp at hb; rw [hb]; exact h.dr.2.1))
 have g0 : (getF D s).nm = s := getF_nm D s
 have gl : ((lookF E.fs s).map (·.bs.length)).getD 0 = (getF D s).bs.length := by
  rw [e1, getF]
  cases lookF D.fs s <;> rfl
 have gsf : (getF D s).sf <= (getF D s).bs.length := by
  rw [getF]
  cases hq : lookF D.fs s with
  | none => exact Nat.le_refl _
  | some f => exact h.inv.safe f (lookF_mem hq).1
 have gle : (getF D s).bs.length <= sumF D.fs := by
  rw [getF]
  cases hq : lookF D.fs s with
  | none => exact Nat.zero_le _
  | some f => exact sumF_mem (lookF_mem hq).1
 refine ⟨fun u => ∃ tb6 L6 p sl, DkP u d (setFs E L6) r tb6 (fun x => F x ∨ w4.heap.size <= x) /\ tb6 s = some (p, sl) /\ lookF L6 s = some (getF D s) /\ (∀ g, g.nm = s -> putF g L6 = putF g E.fs) /\ sumF L6 = sumF D.fs /\ OnlyP F w u /\ w4.heap.size <= u.heap.size /\ SliceF rByte 1 u (fun k => w1.heap.size <= k /\ k < w3.heap.size) l2 ys /\ (∀ k, w1.heap.size <= k /\ k < w3.heap.size -> sl.a ≠ some ⟨k, 0, none⟩), ?_, ?_⟩
 · rintro w6 ⟨tb6, L6, p, sl, h6, t6, k6, q6, s6, o6, z6, y6, d6⟩
   refine ⟨fun u => Aft d (setFs E (putF { getF D s with bs := (getF D s).bs ++ ys } E.fs)) F w u, fun w7 hJ => ⟨fun hc => ⟨by unfold codeP; rw [if_pos hc], hJ⟩, fun hc => ⟨by unfold codeP; rw [if_neg (by rw [hc]; simp)], hJ⟩⟩, fun w8 hO8 => ?_⟩
   have z8 := hO8.size
   have h8 := h6.only0 hO8
   have hF8 := h8.fil s p sl _ t6 k6
   have y8 := SliceF.only rByte_ok (by decide) y6 hO8 (by simp)
   have lk : ∀ {u : World}, OnlyP (fun x => sl.a = some ⟨x, 0, none⟩) w8 u -> (Instr.lookup 28 (.map (some r)) (.string (T s)) false).run Try.prog u = .ok (.pointer (some ⟨p, 0, none⟩)) u := fun hO => by
    have := look_of (h8.map.keep (hO.block r h8.map.lt fun hx => (h8.out s r ⟨p, sl, t6, .inr hx⟩).2.1 rfl)) s
    rw [t6] at this
    exact this
   have l8 := lk (OnlyP.refl _ w8)
   obtain ⟨l4, w11, a1, a2, a3, a4⟩ := hF8.row.app (ty := 33) y8 d6 (by omega)
   have kp : Keeps (fun k => k = d ∨ k = p) w8 w11 := fun k hk hlt => a3.block k hlt fun hx => by
    rcases hk with rfl | rfl
    · exact (h8.out s _ ⟨p, sl, t6, .inr hx⟩).1 rfl
    · exact hF8.ne hx
   have kr : ∀ u : World, Keeps (fun k => k = d ∨ k = p) u u := fun u k _ _ => rfl
   have hB11 : Blk w11 p 66 [sl.v, .int .i64 ((getF D s).sf : Int)] := a3.blk hF8.blk fun hx => hF8.ne hx
   have fin : ∀ w12 : World, Only [p] w11 w12 -> Blk w12 p 66 [l4.v, .int .i64 ((getF D s).sf : Int)] -> Aft d (setFs E (putF { getF D s with bs := (getF D s).bs ++ ys } E.fs)) F w w12 := fun w12 hO12 hB12 => by
    have o12 : OnlyP (fun x => x = p ∨ sl.a = some ⟨x, 0, none⟩) w8 w12 := (a3.mono fun k _ hk => .inr hk).trans (hO12.p (F := fun x => x = p ∨ sl.a = some ⟨x, 0, none⟩) fun b hb => .inl (.inl (by simpa using hb))) fun k hk => .inl hk
    have hpl : p < w8.heap.size := hF8.blk.lt
    have hne4 : l4.a ≠ some ⟨p, 0, none⟩ := fun hx => by
     rcases a4 with e | e
     · rw [e] at hx; exact hF8.ne hx
     · rw [e] at hx; injection hx with hx; injection hx with hx; omega
    have := h8.setFile (f' := { getF D s with bs := (getF D s).bs ++ ys }) (s' := l4) t6 g0 o12 ⟨hB12, a2.keep fun x hx hlt => hO12.block x hlt (by simp only [List.mem_singleton]; rintro rfl; exact hne4 hx), hne4⟩
     (fun x hx => by
      rcases a4 with e | e
      · rw [e] at hx; exact .inl hx
      · rw [e] at hx; injection hx with hx; injection hx with hx; right; omega)
     (h8.inv.put (by dsimp only; rw [List.length_append]; omega) (by dsimp only; rw [g0]; exact hb) (by
      have := sumF_put (l := L6) (g := getF D s) (f' := { getF D s with bs := (getF D s).bs ++ ys }) h8.inv.rise rfl (by rw [g0, k6]; rfl)
      dsimp only at this
      rw [List.length_append] at this
      have hle : sumF (putF { nm := (getF D s).nm, bs := (getF D s).bs ++ ys, sf := (getF D s).sf } L6) <= E.room := by omega
      exact hle))
    have e6 : putF { getF D s with bs := (getF D s).bs ++ ys } L6 = putF { getF D s with bs := (getF D s).bs ++ ys } E.fs := q6 _ g0
    have := this
    rw [show (setFs E L6).fs = L6 from rfl, e6] at this
    refine ⟨⟨r, _, this.mono fun x hx hf => ?_⟩, ?_⟩
    · rcases hf with (hf | hf) | hf
      · exact .inl hf
      · right
        have := o4.size
        exact ⟨by omega, hx⟩
      · right
        have := o6.size
        exact ⟨by omega, hx⟩
    · refine (o6.tr0 hO8).trans o12 fun k hk => ?_
      have := (h8.out s k ⟨p, sl, t6, hk⟩).2.2
      exact this.imp id fun h => by have := o4.size; omega
   refine ⟨fun k => k = d ∨ k = p, .inl rfl, _, h8.mp, .inl rfl, _, h8.mp, ⟨_, w8, l8, kr _, _, w8, l8, kr _, _, rfl, sl, Blk.at1 hF8.blk 0 rfl, l4, w11, a1, kp, _, rfl, p, 0, _, _, rfl, hB11, by simp, fun w12 hO12 hB12 => fin w12 hO12 hB12⟩, _, w8, l8, kr _, _, rfl, .inr rfl, sl, Blk.at1 hF8.blk 0 rfl, ⟨_, w8, l8, kr _, l4, w11, a1, kp, _, rfl, p, 0, _, _, rfl, hB11, by simp, fun w12 hO12 hB12 => fin w12 hO12 hB12⟩, l4, w11, a1, kp, _, w11, lk a3, kr _, _, rfl, p, 0, _, _, rfl, hB11, by simp, fun w12 hO12 hB12 => fin w12 hO12 hB12⟩
 · have l4 := look_of h4.map s
   refine ⟨_, h4.mp, _, w4, l4, fun hq => ?_, fun hq => ?_⟩
   · have ht : tb s = none := by cases ht : tb s with
      | none => rfl
      | some q => rw [ht] at hq; cases hq
     have hf : lookF D.fs s = none := by have := (h.non s).1 ht; exact this
     have hg : getF D s = fl0 s := by rw [getF, hf]; rfl
     refine ⟨_, h4.mp, fun k12 w21 hk hk' hO21 hB21 => ?_⟩
     have h21 := h4.only0 hO21
     have z21 := hO21.size
     obtain ⟨w22, u1, u2, u3⟩ := h21.map.update (P := Try.prog) (mty := 28) (kt := 9) (et := 64) (k := s) keyS (by kernel_rfl) (by kernel_rfl) (gS_of hb) (.pointer (some ⟨k12, 0, none⟩))
     have z22 := u3.size
     have rlt := h4.map.lt
     have hB22 : Blk w22 k12 66 [Sl.nil.v, .int .i64 0] := u3.blk hB21 (by simp; omega)
     have hsum0 : sumF (putF (fl0 s) E.fs) = sumF D.fs := by
      have := putF_sum (fl0 s) h4.inv.rise
      rw [show (fl0 s).nm = s from rfl, e1, hf] at this
      simp only [Option.map_none, Option.getD_none, fl0, List.length_nil] at this
      rw [e1]
      simp only [fl0]
      omega
     have := h21.addKey (G := fun x => F x ∨ w4.heap.size <= x) (f := fl0 s) (s := Sl.nil) u3 rfl (fun _ h => .inl h) u2 ⟨hB22, RowB.of (B := 0) (Own.nil _ _ _ _ _ _), by simp⟩ (fun x hx => by
       rcases hx with rfl | hx
       · refine ⟨fun e => by have := h4.dlt; omega, by omega, .inr hk, fun l hl hin => by have := h4.lt hin; omega⟩
       · cases hx) (h21.inv.put (Nat.le_refl _) hb (by rw [hsum0, e2]; exact i1))
     have et : updT tb s (k12, Sl.nil) s = some (k12, Sl.nil) := if_pos rfl
     refine ⟨w22, u1, u3.same (by simp; omega), _, putF (fl0 s) E.fs, k12, Sl.nil, this, et, by rw [putF_look _ _ h4.inv.rise, if_pos (show s = (fl0 s).nm from rfl), hg], fun g hgn => putF_putF _ _ (by rw [hgn]; rfl) _, hsum0, (o4.tr0 hO21).trans (u3.p (F := F) fun b hb => .inl (by simp at hb; rw [hb]; exact h.dr.2.2)) fun k hk => .inl hk, by omega, SliceF.only rByte_ok (by decide) (SliceF.only rByte_ok (by decide) hys hO21 (by simp)) u3 (fun k hk _ hm => by simp at hm; have := h.map.lt; omega), fun k _ => by simp⟩
   · cases ht : tb s with
     | none => rw [ht] at hq; cases hq
     | some q =>
      obtain ⟨f, hf⟩ := h.hasF ht
      have hg : getF D s = f := getF_some hf
      refine ⟨tb, E.fs, q.1, q.2, h4.mono fun x _ hx => .inl hx, ht, by rw [e1, hg]; exact hf, fun g _ => rfl, by rw [e1], o4, Nat.le_refl _, hys, fun k hk hx => ?_⟩
      have := h.lt (k := s) ⟨q.1, q.2, ht, .inr hx⟩
      omega
end
def rFl : Rp Fl := fun w F f cs => ∃ t : Sl, cs = [.string (T f.nm), t.v, .int .i64 (f.sf : Int)] /\ Own rByte 1 5 0 w (fun _ => False) t f.bs /\ ∀ k, t.a = some ⟨k, 0, none⟩ -> F k
theorem rFl_ok : rFl.Ok where
 keep := fun ⟨t, h1, h2, h3⟩ hk => ⟨t, h1, h2.keep rByte_ok fun k hx hlt => hk k (h3 k (hx.elim False.elim fun h => h.2)) hlt, h3⟩
 inHeap := fun ⟨t, h1, h2, h3⟩ => ⟨t, h1, h2, fun k hk => ⟨h3 k hk, (h2.blk hk).2⟩⟩
 mono := fun ⟨t, h1, h2, h3⟩ hk => ⟨t, h1, h2, fun k hx => hk k (h3 k hx)⟩
 one := fun ⟨t, h1, h2, h3⟩ v hv => by
  subst h1
  simp only [List.mem_cons, List.not_mem_nil, or_false] at hv
  rcases hv with rfl | rfl | rfl <;> rfl
section
variable {w w' : World} {d r : Nat} {D E : Dk} {tb : Tb} {F G : Nat -> Prop} {p : Nat} {sl : Sl} {f : Fl} {a b s : List UInt8}
theorem flatT {B : Nat} {t : Sl} {l : List (List UInt8)} (h : Own rTx 1 9 B w (fun _ => False) t l) : SliceF rTx 1 w (fun k => B <= k /\ k < w.heap.size) t l :=
 SliceF.mono rTx_ok (SliceF.inHeap rTx_ok (flatS h) (by decide)) fun k hk => ⟨hk.1.1, hk.2⟩
theorem files_c (h : DkP w d D r tb F) (hn : D.fs.length <= 4194304) (hm : sumF D.fs <= 140737488355328) : Calls Try.prog 13 #[.pointer (some ⟨d, 0, none⟩)] w fun e w' => (∃ t : Sl, e = .returned t.v /\ Own rFl 3 38 w.heap.size w' (fun k => w.heap.size <= k) t D.fs) /\ Only [] w w' := by
 refine (v5w ⟨d, 0, none⟩ (fun v w' => (∃ t : Sl, v = t.v /\ Own rFl 3 38 w.heap.size w' (fun k => w.heap.size <= k) t D.fs) /\ Only [] w w') w ?_).mono (by
  rintro _ w' ⟨v, rfl, ⟨t, rfl, h⟩, h'⟩; exact ⟨⟨t, rfl, h⟩, h'⟩)
 unfold v5v
 refine (names_c h hn).mono ?_
 rintro _ w0 ⟨⟨l0, rfl, hl0⟩, hO0⟩
 have z0 := hO0.size
 have hl0 := flatT hl0
 have hln := hl0.len
 have hcp := hl0.cap
 have hbg := hl0.big
 rw [List.length_map] at hln
 refine ⟨l0, rfl, fun nv l i u => ∃ n : Nat, i = (n : Int) /\ nv + n = D.fs.length /\ Only [] w0 u /\ Own rFl 3 38 w0.heap.size u (fun k => w0.heap.size <= k) l (D.fs.take n), D.fs.length, ⟨0, rfl, rfl, Only.refl _ _, by rw [List.take_zero]; exact Own.nil _ _ _ _ _ _⟩, ?_⟩
 rintro nv l1 _ w1 ⟨n, rfl, hnv, hO1, hown⟩
 have z1 := hO1.size
 refine ⟨fun hlt => ?_, fun hge => ?_⟩
 · have hlt : (n : Int) < (l0.n : Int) := of_decide_eq_true hlt
   obtain ⟨ad, nm, cs, g1, g2, g3, g4, g5, g6⟩ := (SliceF.only rTx_ok (by decide) hl0 hO1 (by simp)).get (Int.natCast_nonneg n) hlt
   have g6 : cs = [.string (T nm)] := g6
   subst g6
   rw [Int.toNat_natCast, List.getElem?_map, Option.map_eq_some_iff] at g2
   obtain ⟨f, hfn, hnm⟩ := g2
   have hmem := List.mem_of_getElem? hfn
   have hlk : lookF D.fs nm = some f := by rw [<- hnm]; exact h.inv.rise.lookF hmem
   obtain ⟨p, s, ht, _⟩ := h.file hlk
   have hlen := sumF_mem hmem
   have htk : D.fs.take (n + 1) = D.fs.take n ++ [f] := by rw [List.take_add_one, hfn]; rfl
   refine ⟨ad, g1, T nm, g5, fun l u => Only [] w0 u /\ Own rFl 3 38 w0.heap.size u (fun k => w0.heap.size <= k) l (D.fs.take (n + 1)), fun l2 w2 hJ => ⟨nv - 1, by omega, n + 1, by rw [wr' (by omega) (by omega)]; rfl, by omega, hJ.1, hJ.2⟩, fun w3 hO3 => ?_⟩
   have o3 := hO1.tr0 hO3
   have hD : ∀ {u : World}, Only [] w0 u -> DkP u d D r tb F := fun hO => h.only0 (hO0.tr0 hO)
   have lk : ∀ {u : World}, Only [] w0 u -> (Instr.lookup 28 (.map (some r)) (.string (T nm)) false).run Try.prog u = .ok (.pointer (some ⟨p, 0, none⟩)) u := fun hO => by
    have := look_of (hD hO).map nm
    rw [ht] at this
    exact this
   have fl : ∀ {u : World}, Only [] w0 u -> FileP u p s f := fun hO => (hD hO).fil nm p s f ht hlk
   have cl : ∀ {u : World}, Only [] w0 u -> Calls Try.prog 30 #[s.v] u fun e w' => (∃ t : Sl, e = .returned t.v /\ Own rByte 1 5 u.heap.size w' (fun _ => False) t f.bs) /\ Only [] u w' := fun hO => bclone_c (fl hO).row.sl (by omega)
   have kp : ∀ {u u' : World}, Only [] u u' -> Keeps (fun k => k = d ∨ k = p) u u' := fun hO k _ hk => hO.block k hk (by simp)
   have ap : ∀ {u u' u'' : World} {t : Sl}, Only [] w1 u -> Only [] u u' -> Own rByte 1 5 u.heap.size u' (fun _ => False) t f.bs -> Only [] u' u'' -> ∃ l5 w7, (Instr.buildSlice 35 1 #[.mk 0 (.agg #[.string (T nm), t.v, .int .i64 (f.sf : Int)])]).run Try.prog u'' = .ok (Sl.v l5) w7 /\ Keeps (fun k => k = d ∨ k = p) u'' w7 /\
     ∃ l6 w8, (Builtin.append_ #[35, 35] 35 #[Sl.v l1, Sl.v l5]).run Try.prog w7 = .ok (Sl.v l6) w8 /\ Keeps (fun k => k = d ∨ k = p) w7 w8 /\ Only [] w0 w8 /\ Own rFl 3 38 w0.heap.size w8 (fun k => w0.heap.size <= k) l6 (D.fs.take (n + 1)) := fun {u u' u'' t} q1 q2 ho q3 => by
    have zz := q1.size
    have zy := q2.size
    have zx := q3.size
    have q13 := (q1.tr0 q2).tr0 q3
    have hx : rFl u'' (fun k => t.a = some ⟨k, 0, none⟩) f [.string (T nm), t.v, .int .i64 (f.sf : Int)] := ⟨t, by rw [hnm], (ho.keep rByte_ok fun k _ hlt => q3.block k hlt (by simp)).low (Nat.zero_le _), fun k hk => hk⟩
    have hown' := hown.keep (w' := u'') rFl_ok fun k _ hlt => q13.block k hlt (by simp)
    obtain ⟨y, w7, k1, k3, l6, w8, m1, m2, ⟨gs, m3, m4⟩, m5⟩ := app_one (P := Try.prog) (t := 35) (ty := 35) (e := 38) (i := Try.t38) (bytes := 48) (size := 3) (r := rFl) (G := fun k => t.a = some ⟨k, 0, none⟩) (v := .agg #[.string (T nm), t.v, .int .i64 (f.sf : Int)]) (x := f) (by kernel_rfl) (by kernel_rfl) rfl rfl rfl rfl (by decide) (by decide) (by decide) rFl_ok hown' (by omega) rfl hx (fun k hk hlt => by
     have hb := (ho.blk hk).1
     dsimp only at hb
     exact ⟨by omega, fun ha => by have := (hown.blk ha).2; dsimp only at this; omega⟩) (by rw [List.length_take]; omega)
    have dlt := h.dlt
    have plt := h.lt (k := nm) ⟨p, s, ht, .inl rfl⟩
    refine ⟨y, w7, k1, kp k3, l6, w8, m1, fun k hk hlt => m3.block k hlt fun hg => by have := (m4 k hg).2.1; omega, ((hO1.tr0 q13).tr0 k3).trans m3 fun x hx => .inr (m4 x hx).2.1, ?_⟩
    rw [htk]
    exact m2.mono rFl_ok fun k hk => hk.elim id fun h => by omega
   have kr : ∀ u : World, Keeps (fun k => k = d ∨ k = p) u u := fun u k _ _ => rfl
   have mp3 := (hD o3).mp
   have b0 := Blk.at1 (fl o3).blk 0 (v := s.v) rfl
   have b1 := Blk.at1 (fl o3).blk 1 (v := .int .i64 (f.sf : Int)) rfl
   refine ⟨fun k => k = d ∨ k = p, .inl rfl, _, mp3, .inl rfl, _, mp3, ⟨_, w3, lk o3, kr _, _, rfl, .inr rfl, s, b0, (cl o3).mono ?_, _, w3, lk o3, kr _, _, rfl, .inr rfl, _, b1, (cl o3).mono ?_⟩, _, w3, lk o3, kr _, _, rfl, .inr rfl, _, b1, _, w3, lk o3, kr _, _, rfl, s, b0, (cl o3).mono ?_⟩
   · rintro _ w5 ⟨⟨t, rfl, ho⟩, hO5⟩
     have o5 := o3.tr0 hO5
     exact ⟨t, rfl, kp hO5, _, w5, lk o5, kr _, _, rfl, _, Blk.at1 (fl o5).blk 1 rfl, ap hO3 hO5 ho (Only.refl _ _)⟩
   · rintro _ w5 ⟨⟨t, rfl, ho⟩, hO5⟩
     exact ⟨t, rfl, kp hO5, ap hO3 hO5 ho (Only.refl _ _)⟩
   · rintro _ w5 ⟨⟨t, rfl, ho⟩, hO5⟩
     exact ⟨t, rfl, kp hO5, ap hO3 hO5 ho (Only.refl _ _)⟩
 · have hge : ¬ (n : Int) < (l0.n : Int) := of_decide_eq_false hge
   have hn2 : n = D.fs.length := by omega
   subst hn2
   rw [List.take_length] at hown
   exact ⟨⟨l1, rfl, (hown.low z0).mono rFl_ok fun k hk => Nat.le_trans z0 hk⟩, hO0.tr0 hO1⟩
end
end Go.Proofs.Ytijipkdbkgafkaa.Con
namespace Go.Proofs.Ytijipkdbkgafkaa.Con
open Go Go.RowKit Go.Kt Go.Kt.V Go.Proofs.Ytijipkdbkgafkaa.Vc
set_option linter.unusedSimpArgs false
set_option linter.unusedVariables false
set_option maxHeartbeats 1000000
set_option maxRecDepth 100000
theorem putF_mid {f g : Fl} (hn : g.nm = f.nm) {B : List Fl} : ∀ {A : List Fl}, Rise (A ++ f :: B) -> putF g (A ++ f :: B) = A ++ g :: B
 | [], _ => by
  rw [List.nil_append, putF, if_neg (by rw [hn]; exact List.lt_irrefl _), if_pos hn.symm]
  rfl
 | a :: A, h => by
  rw [List.cons_append] at h ⊢
  obtain ⟨h1, h2⟩ := List.pairwise_cons.1 h
  have hlt := h1 f (by simp)
  rw [putF, if_neg (by rw [hn]; exact fun h => absurd (List.lt_trans h hlt) (List.lt_irrefl _)), if_neg (by rw [hn]; exact fun e => by rw [e] at hlt; exact absurd hlt (List.lt_irrefl _)), putF_mid hn h2]
  rfl
theorem bootL_snoc : ∀ (ks : List Int) {l : List Fl} {n : Nat} {f : Fl}, l[n]? = some f -> bootL ks (l.take (n + 1)) = bootL ks (l.take n) ++ [bootF (ks.drop n) f]
 | ks, a :: l, 0, f, h => by
  simp only [List.getElem?_cons_zero, Option.some.injEq] at h
  subst h
  simp [bootL]
 | ks, a :: l, n + 1, f, h => by
  rw [List.take_succ_cons, List.take_succ_cons, bootL, bootL, bootL_snoc ks.tail (by simpa using h), List.cons_append]
  have : ks.tail.drop n = ks.drop (n + 1) := by cases ks <;> simp
  rw [this]
theorem bootF_le {ks : List Int} {f : Fl} (h : f.sf <= f.bs.length) : (bootF ks f).bs.length <= f.bs.length /\ (bootF ks f).sf = (bootF ks f).bs.length /\ f.sf <= (bootF ks f).sf /\ (bootF ks f).nm = f.nm /\ (bootF ks f).bs = f.bs.take (bootF ks f).sf := by
 have hk : (bootF ks f).sf <= f.bs.length := by
  unfold bootF
  dsimp only
  cases ks with
  | nil => dsimp only; omega
  | cons x r =>
   dsimp only
   have := modI_lt x (k := f.bs.length - f.sf + 1) (by omega)
   omega
 refine ⟨?_, ?_, ?_, rfl, rfl⟩
 · show (f.bs.take (bootF ks f).sf).length <= _
   rw [List.length_take]; omega
 · show _ = (f.bs.take (bootF ks f).sf).length
   rw [List.length_take]; omega
 · unfold bootF
   exact Nat.le_add_right _ _
section
variable {w w' : World} {d r : Nat} {D E : Dk} {tb : Tb} {F G : Nat -> Prop} {p : Nat} {sl : Sl} {f : Fl} {a b s : List UInt8}
theorem boot_c0 (h : DkP w d D r tb F) (hFh : ∀ x, F x -> x < w.heap.size) (hn : D.fs.length <= 4194304) (hm : sumF D.fs <= 140737488355328) {ka : Sl} {keep : List Int} (hk : SliceF rInt 1 w G ka keep) (hG : ∀ k, G k -> k < w.heap.size -> ¬ F k) :
  Calls Try.prog 12 #[.pointer (some ⟨d, 0, none⟩), ka.v] w fun e w' => e = .returned (.tuple #[]) /\ Aft d (bootD D keep) F w w' := by
 refine ret (v2w ⟨d, 0, none⟩ ka (fun v w' => v = .tuple #[] /\ Aft d (bootD D keep) F w w') w ?_)
 unfold v2v
 refine (names_c h hn).mono ?_
 rintro _ w0 ⟨⟨l0, rfl, hl0⟩, hO0⟩
 have z0 := hO0.size
 have hl0 := flatT hl0
 have hln := hl0.len
 have hcp := hl0.cap
 have hbg := hl0.big
 rw [List.length_map] at hln
 have hkl := hk.len
 have hkc := hk.cap
 have hkb := hk.big
 have hkh := SliceF.inHeap rInt_ok hk (by decide)
 have h0 := h.only0 hO0
 refine ⟨l0, rfl, fun nv i u => ∃ (n : Nat) (tb' : Tb), i = (n : Int) /\ nv + n = D.fs.length /\ DkP u d (setFs D (bootL keep (D.fs.take n) ++ D.fs.drop n)) r tb' (fun x => F x ∨ w0.heap.size <= x) /\ OnlyP F w0 u, D.fs.length, ⟨0, tb, rfl, rfl, (h0.mono fun x _ hx => .inl hx : DkP w0 d D r tb (fun x => F x ∨ w0.heap.size <= x)), OnlyP.refl _ _⟩, ?_⟩
 rintro nv _ w1 ⟨n, tb', rfl, hnv, h1, hO1⟩
 have z1 := hO1.size
 refine ⟨fun hlt => ?_, fun hge => ?_⟩
 · have hlt : (n : Int) < (l0.n : Int) := of_decide_eq_true hlt
   have hl1 := SliceF.onlyP rTx_ok (by decide) hl0 hO1 fun k hk _ hf => by have := hFh k hf; omega
   obtain ⟨ad, nm, cs, g1, g2, g3, g4, g5, g6⟩ := hl1.get (Int.natCast_nonneg n) hlt
   have g6 : cs = [.string (T nm)] := g6
   subst g6
   rw [Int.toNat_natCast, List.getElem?_map, Option.map_eq_some_iff] at g2
   obtain ⟨f, hfn, hnm⟩ := g2
   have hnl := (List.getElem?_eq_some_iff.1 hfn).1
   have hmem := List.mem_of_getElem? hfn
   have hsf := h.inv.safe f hmem
   have hlen := sumF_mem hmem
   have hdr : D.fs.drop n = f :: D.fs.drop (n + 1) := by
    rw [List.drop_eq_getElem_cons hnl]
    congr 1
    exact (List.getElem?_eq_some_iff.1 hfn).2
   obtain ⟨L, hL⟩ : ∃ L, L = bootL keep (D.fs.take n) ++ D.fs.drop n := ⟨_, rfl⟩
   rw [<- hL] at h1
   have hrise : Rise L := h1.inv.rise
   have hlk : lookF L nm = some f := by rw [<- hnm]; exact hrise.lookF (by rw [hL, hdr]; simp)
   obtain ⟨p, s, ht, hF1⟩ := h1.file hlk
   have l1 := look_of h1.map nm
   rw [ht] at l1
   obtain ⟨bf1, bf2, bf3, bf4, bf5⟩ := bootF_le (ks := keep.drop n) hsf
   have hpos : ∀ x, (x = p ∨ s.a = some ⟨x, 0, none⟩) -> F x ∨ w0.heap.size <= x := fun x hx => (h1.out nm x ⟨p, s, ht, hx⟩).2.2
   refine ⟨ad, g1, T nm, g5, _, h1.mp, _, w1, l1, fun u => ∃ tb1 L1 f1, DkP u d (setFs D L1) r tb1 (fun x => F x ∨ w0.heap.size <= x) /\ tb1 nm = some (p, s) /\ lookF L1 nm = some f1 /\ f1 = { f with sf := (bootF (keep.drop n) f).sf } /\ (∀ g, g.nm = nm -> putF g L1 = putF g L) /\ OnlyP F w0 u, ?_, fun hc w7 hO7 => ?_, fun hc => ?_⟩
   · rintro w3 ⟨tb1, L1, f1, h3, t3, k3, rfl, q3, o3⟩
     refine ⟨_, rfl, fun w4 hO4 => ?_⟩
     have h4 := h3.only0 hO4
     have hF4 := h4.fil nm p s _ t3 k3
     have hr4 := hF4.row.sl.len
     have hc4 := hF4.row.sl.cap
     have hb4 := hF4.row.sl.big
     have z3 := o3.size
     have z4 := hO4.size
     refine ⟨s, Blk.at1 hF4.blk 0 rfl, _, rfl, _, Blk.at1 hF4.blk 1 rfl, (bootF (keep.drop n) f).sf, ⟨rfl, by dsimp only at hr4; omega⟩, ?_⟩
     have hcut := hF4.row.sl.cut (lo := 0) (hi := (bootF (keep.drop n) f).sf) (m := s.c) (by omega) (by dsimp only at hr4; omega) (by dsimp only at hr4; omega) (by omega)
     rw [Nat.sub_zero, List.drop_zero] at hcut
     refine (bclone_c hcut (by rw [List.length_take]; dsimp only; omega)).mono ?_
     rintro _ w5 ⟨⟨t, rfl, ho⟩, hO5⟩
     have z5 := hO5.size
     have h5 := h4.only0 hO5
     have hF5 := h5.fil nm p s _ t3 k3
     refine ⟨t, rfl, _, rfl, p, 0, _, _, rfl, hF5.blk, by simp, fun w6 hO6 hB6 => ?_⟩
     have hne : t.a ≠ some ⟨p, 0, none⟩ := fun hx => by
      have := (ho.blk hx).1
      dsimp only at this
      have := hF4.blk.lt
      omega
     have hput : putF (bootF (keep.drop n) f) L1 = bootL keep (D.fs.take (n + 1)) ++ D.fs.drop (n + 1) := by
      rw [q3 _ (by rw [bf4]; exact hnm), hL, hdr, putF_mid bf4 (by rw [<- hdr, <- hL]; exact hrise), bootL_snoc keep hfn, List.append_assoc]
      rfl
     have hsum : sumF (putF (bootF (keep.drop n) f) L1) <= D.room := by
      have := sum_same (s := nm) (f' := bootF (keep.drop n) f) h5.inv.rise k3 (by rw [bf4]; exact hnm) (by dsimp only; exact bf1)
      exact Nat.le_trans this h5.inv.sum
     have o46 : Only [p] w4 w6 := (hO5.weaken (bs' := [p]) fun _ h => by cases h).trans hO6 fun x hx => .inl hx
     have := h4.setFile (f' := bootF (keep.drop n) f) (s' := t) t3 (by rw [bf4]; exact hnm) (o46.p fun b hb => .inl (.inl (by simpa using hb))) ⟨hB6, RowB.of (B := 0) ((ho.keep rByte_ok fun k hk hlt => hO6.block k hlt (by
       have := hk.elim False.elim fun h => h.2
       simp only [List.mem_singleton]
       rintro rfl
       exact hne this)).low (Nat.zero_le _)), hne⟩ (fun x hx => .inr (by have := (ho.blk hx).1; exact this)) (h4.inv.put (by rw [bf2]; exact Nat.le_refl _) (by rw [bf4]; exact h.inv.nam f hmem) hsum)
     rw [show (setFs D L1).fs = L1 from rfl, hput] at this
     refine ⟨nv - 1, by omega, n + 1, _, by rw [wr' (by omega) (by omega)]; rfl, by omega, this.mono fun x _ hx => hx.elim id fun h => .inr (by omega), ?_⟩
     exact ((o3.tr0 hO4).tr0 hO5).trans (hO6.p (F := fun x => F x ∨ w0.heap.size <= x) fun b hb => .inl (by simp at hb; rw [hb]; exact hpos p (.inl rfl))) fun k hk => hk
   · have hc : (n : Int) < (ka.n : Int) := of_decide_eq_true hc
     have z7 := hO7.size
     have h7 := h1.only0 hO7
     have hF7 := h7.fil nm p s f ht hlk
     have hr7 := hF7.row.sl.len
     have hk7 := SliceF.only rInt_ok (by decide) (SliceF.onlyP rInt_ok (by decide) (SliceF.only rInt_ok (by decide) hkh hO0 (by simp)) hO1 fun k hk _ hf => hG k hk.1 hk.2 hf) hO7 (by simp)
     obtain ⟨kd, x, cs, c1, c2, c3, c4, c5, c6⟩ := hk7.get (Int.natCast_nonneg n) hc
     obtain ⟨rfl, hxi⟩ := c6
     rw [Int.toNat_natCast] at c2
     have hd : keep.drop n = x :: keep.drop (n + 1) := by
      have hl := (List.getElem?_eq_some_iff.1 c2).1
      rw [List.drop_eq_getElem_cons hl]
      congr 1
      exact (List.getElem?_eq_some_iff.1 c2).2
     have hk1 : (bootF (keep.drop n) f).sf = f.sf + modI x (f.bs.length - f.sf + 1) := by rw [hd]; rfl
     have hml := modI_lt x (k := f.bs.length - f.sf + 1) (by omega)
     have ew : IntKind.wrap .i64 (IntKind.wrap .i64 ((s.n : Int) - (f.sf : Int)) + 1) = ((f.bs.length - f.sf + 1 : Nat) : Int) := by
      rw [wr' (x := (s.n : Int) - (f.sf : Int)) (by omega) (by omega), wr' (by omega) (by omega)]
      omega
     refine ⟨fun k => k = p, _, rfl, rfl, _, Blk.at1 hF7.blk 1 rfl, kd, c1, x, c5, _, rfl, s, Blk.at1 hF7.blk 0 rfl, _, rfl, _, Blk.at1 hF7.blk 1 rfl, ?_⟩
     rw [ew]
     refine (modulo_c x (by omega) (by omega)).mono ?_
     rintro _ w8 ⟨rfl, hu⟩
     obtain rfl : w7 = w8 := hu.symm
     refine ⟨_, rfl, fun k _ _ => rfl, _, rfl, p, 1, _, _, rfl, hF7.blk, by simp, fun w9 hO9 hB9 => ?_⟩
     have hB9' : Blk w9 p 66 [s.v, .int .i64 (((bootF (keep.drop n) f).sf : Nat) : Int)] := by
      have e : IntKind.wrap .i64 ((f.sf : Int) + (modI x (f.bs.length - f.sf + 1) : Int)) = (((bootF (keep.drop n) f).sf : Nat) : Int) := by
       rw [wr' (by omega) (by omega), hk1]
       omega
      rw [e] at hB9
      exact hB9
     have hbl : (bootF (keep.drop n) f).sf <= f.bs.length := by omega
     have := h7.setFile (f' := { f with sf := (bootF (keep.drop n) f).sf }) (s' := s) ht hnm (hO9.p fun b hb => .inl (.inl (by simpa using hb))) ⟨hB9', hF7.row.keep fun x hx hlt => hO9.block x hlt (by simp only [List.mem_singleton]; rintro rfl; exact hF7.ne hx), hF7.ne⟩ (fun x hx => .inl hx)
      (h7.inv.put hbl (h.inv.nam f hmem) (Nat.le_trans (sum_same (s := nm) h7.inv.rise hlk hnm (Nat.le_refl _)) h7.inv.sum))
     refine ⟨_, putF { f with sf := (bootF (keep.drop n) f).sf } L, _, this.mono fun x _ hx => hx.elim id fun h => .inr (by omega), if_pos rfl, by rw [putF_look _ _ hrise, if_pos (show nm = _ from hnm.symm)], rfl, fun g hg => putF_putF _ _ (by rw [hg]; exact hnm) _, (hO1.tr0 hO7).trans (hO9.p (F := fun x => F x ∨ w0.heap.size <= x) fun b hb => .inl (by simp at hb; rw [hb]; exact hpos p (.inl rfl))) fun k hk => hk⟩
   · have hc : ¬ (n : Int) < (ka.n : Int) := of_decide_eq_false hc
     have hd : keep.drop n = [] := List.drop_eq_nil_of_le (by omega)
     have : (bootF (keep.drop n) f).sf = f.sf := by rw [hd]; rfl
     exact ⟨tb', L, f, h1, ht, hlk, by rw [this], fun g _ => rfl, hO1⟩
 · have hge : ¬ (n : Int) < (l0.n : Int) := of_decide_eq_false hge
   have hn2 : n = D.fs.length := by omega
   subst hn2
   rw [List.take_length, List.drop_length, List.append_nil] at h1
   obtain ⟨a, b, c, hb, _⟩ := h1.blk
   refine ⟨d, 0, _, _, rfl, hb, by simp, fun w10 hO10 hB10 => ⟨rfl, ?_, ?_⟩⟩
   · have := h1.power hO10 (off := false) (pw := none) (armed := false) (acts := 0) (part := 0) hB10 rfl
     exact ⟨r, tb', this.mono fun x hx hf => hf.imp id fun h => ⟨by omega, hx⟩⟩
   · exact hO0.trP (hO1.trans (hO10.p (F := F) fun b hb => .inl (by simp at hb; rw [hb]; exact h.dr.2.1)) fun k hk => .inl hk)
theorem boot_c (h : DkP w d D r tb F) (hn : D.fs.length <= 4194304) (hm : sumF D.fs <= 140737488355328) {ka : Sl} {keep : List Int} (hk : SliceF rInt 1 w G ka keep) (hG : ∀ k, G k -> k < w.heap.size -> ¬ F k) :
  Calls Try.prog 12 #[.pointer (some ⟨d, 0, none⟩), ka.v] w fun e w' => e = .returned (.tuple #[]) /\ Aft d (bootD D keep) F w w' :=
 (boot_c0 h.heap (fun _ hx => hx.2) hn hm hk fun k hk hlt hf => hG k hk hlt hf.1).mono fun _ _ hh => ⟨hh.1, hh.2.mono fun _ hx => hx.1⟩
end
end Go.Proofs.Ytijipkdbkgafkaa.Con
namespace Go.Kt
open Go Go.RowKit Go.ChangeShapes Go.WideShapes
set_option linter.unusedSimpArgs false
set_option linter.unusedVariables false
def rPair {α β : Type} (r : Rp α) (q : Rp β) : Rp (α × β) := fun w F x cs => ∃ c d, cs = c ++ d /\ r w F x.1 c /\ q w F x.2 d
def rUnit : Rp Unit := fun _ _ _ cs => cs = []
theorem rPair_ok {α β : Type} {r : Rp α} {q : Rp β} (hr : r.Ok) (hq : q.Ok) : (rPair r q).Ok where
 keep := by
  rintro w w' F x cs ⟨c, d, rfl, h1, h2⟩ hk
  exact ⟨c, d, rfl, hr.keep h1 hk, hq.keep h2 hk⟩
 inHeap := by
  rintro w F x cs ⟨c, d, rfl, h1, h2⟩
  exact ⟨c, d, rfl, hr.inHeap h1, hq.inHeap h2⟩
 mono := by
  rintro w F G x cs ⟨c, d, rfl, h1, h2⟩ hk
  exact ⟨c, d, rfl, hr.mono h1 hk, hq.mono h2 hk⟩
 one := by
  rintro w F x cs ⟨c, d, rfl, h1, h2⟩ v hv
  rcases List.mem_append.1 hv with hv | hv
  · exact hr.one h1 v hv
  · exact hq.one h2 v hv
theorem rUnit_ok : rUnit.Ok where
 keep h _ := h
 inHeap h := h
 mono h _ := h
 one h v hv := by rw [show _ = [] from h] at hv; simp at hv
section
variable {H : Type} {enc : TypeId × Value -> H} {P : Program}
theorem trodAll_stays (hl : laidOutB P = true) {W W' : World} {sp : Nat -> Bool} (hb : Below W.heap.size W W') : ∀ {ts : List TypeId} {vs : List Value} {ds : List (DataW H)} {ps : List MemPlace},
  (∀ t, t ∈ ts -> P.readableRec t = true /\ t < P.types.size) -> DataW.TrodAll enc P W 0 (fun _ => true) true ts vs ds ps -> (∀ x, x ∈ ps -> x.block < W.heap.size) -> (∀ x, x ∈ ps -> sp x.block = true) -> DataW.TrodAll enc P W' 0 sp true ts vs ds ps
 | [], vs, ds, ps, _, h, _, _ => by
  obtain ⟨rfl, rfl, rfl⟩ := trodAll_nil h
  exact trodAll_mk0
 | t :: ts, vs, ds, ps, hr, h, hlt, hsp => by
  obtain ⟨v, vs', d, ds', p, q, rfl, rfl, rfl, h1, h2⟩ := trodAll_cons h
  obtain ⟨r1, r2⟩ := hr t (by simp)
  exact trodAll_cons_mk (WideElems.Trod_stays hl r1 r2 h1 (fun x hx => hb.same (hlt x (by simp [hx]))) fun x hx => hsp x (by simp [hx]))
   (trodAll_stays hl hb (fun u hu => hr u (by simp [hu])) h2 (fun x hx => hlt x (by simp [hx])) fun x hx => hsp x (by simp [hx]))
theorem law_post {f : Func} {s : ChangeSpec} {fresh handsOn again : Bool} {W W' : World} {args : Array Value} {ds gs : List (DataW H)} {before : List MemPlace} {tb : TypeId}
  (hW : DataW.Whole enc P f.params.toList s.vars false W args.toList ds gs before) (hv : s.vars = [])
  (hres : (s.fn H (ds ++ gs)).results = [.lit (.bool true)]) (hargs : (s.fn H (ds ++ gs)).args = ds) (hvs : (s.fn H (ds ++ gs)).vars = [])
  (ht : f.resultTypes = #[tb]) (hu : P.underlying tb = some .bool) (hl : laidOutB P = true) (hread0 : (f.params.toList.all fun t => P.readableRec t && decide (t < P.types.size)) = true) (hO : Only [] W W') :
  s.post enc P f false fresh handsOn again W args (.bool true) W' := by
 have hb : Below W.heap.size W W' := hO.below (Nat.le_refl _) (by simp)
 have hread : ∀ t, t ∈ f.params.toList -> P.readableRec t = true /\ t < P.types.size := fun t ht => by simpa using List.all_eq_true.1 hread0 t ht
 have hlt := fun p hp => hW.lt p hp
 obtain ⟨p, q, hA, hV, rfl, hz, hn⟩ := id hW
 rw [hv] at hV
 obtain ⟨rfl, rfl⟩ := trodVars_none hV
 rw [List.append_nil] at *
 have hA' : ∀ sp : Nat -> Bool, (∀ x ∈ p, sp x.block = true) -> DataW.TrodAll enc P W' 0 sp true f.params.toList args.toList (s.fn H ds).args p := fun sp hsp => by
  rw [hargs]
  exact trodAll_stays hl hb hread hA (fun x hx => by simpa using hlt x hx) hsp
 have hV' : ∀ sp : Nat -> Bool, DataW.TrodVars enc P W' sp s.vars (s.fn H ds).vars [] := fun sp => by
  rw [hv, hvs]
  simp [DataW.TrodVars]
 have hres' : ∀ (b : Nat) (sp : Nat -> Bool) (hd : Bool), DataW.TrodAll enc P W' b sp hd f.resultTypes.toList ((Value.bool true).resultList f.resultTypes.size) (s.fn H ds).results [] := fun b sp hd => by
  rw [hres, ht]
  exact trodAll_cons_mk (shut_bool hu true) trodAll_mk0
 have hold : ∀ x ∈ p, (fun b => decide (b < W.heap.size)) x.block = true := fun x hx => by simpa using hlt x hx
 refine ⟨ds, [], p, [], p, [], hW, by simpa using hres' _ _ _, by simpa using hA' _ hold, by simpa using hV' _, World.keptBut_mono (fun x hx => ⟨hx, by simpa using hx⟩) (hb.frame (· ∈ p)), fun _ => ?_⟩
 refine ⟨ok_one ht rfl (okWide_bool_mk hu true), _, _, ([] ++ p) ++ [], ⟨[] ++ p, [], trodAll_append (hA' _ (fun _ _ => rfl)) (hres' _ _ _), hV' _, rfl, ?_, ?_⟩, ?_⟩
 · intro b off hp
   have hp : MemPlace.cell b off ∈ p := by simpa using hp
   rw [hb.frozen (p := ⟨b, off, none⟩) (hlt _ hp)]
   exact hz b off hp
 · intro ha
   cases ha
 · intro x hp _
   simpa using hp
variable {W : World} {base : Nat} {spare : Nat -> Bool} {held : Bool} {α : Type}
def Opens (enc : TypeId × Value -> H) (P : Program) (W : World) (base : Nat) (spare : Nat -> Bool) (held : Bool) (t : TypeId) (r : Rp α) : Prop :=
 ∀ (fuel : Nat) (cs : List Value) (x : DataW H × List MemPlace), DataW.trod enc P W base spare held fuel t cs = some x -> (∀ n, n ∈ x.1.weights P t -> n <= reachBytes) -> ∃ a : α, r W (fun _ => True) a cs
theorem opens_int {t : TypeId} (ht : P.underlying t = some (.int .i64)) : Opens enc P W base spare held t rInt := fun fuel cs x h _ => by
 obtain ⟨n, rfl, rfl, hw⟩ := DataW.trod_int ht h
 refine ⟨n, rfl, ?_⟩
 simpa [Lit.wf, IntKind.min, IntKind.max, IntKind.signed, IntKind.bits, InI] using hw
theorem opens_byte {t : TypeId} (ht : P.underlying t = some (.int .u8)) : Opens enc P W base spare held t rByte := fun fuel cs x h _ => by
 obtain ⟨n, rfl, rfl, hw⟩ := DataW.trod_int ht h
 have hb : 0 <= n /\ n <= 255 := by simpa [Lit.wf, IntKind.min, IntKind.max, IntKind.signed, IntKind.bits] using hw
 refine ⟨UInt8.ofNat n.toNat, ?_⟩
 show _ = [byteV _]
 rw [byteV, UInt8.toNat_ofNat', Nat.mod_eq_of_lt (by omega)]
 congr 2
 omega
def rSl (r : Rp α) (size bytes : Nat) : Rp (List α) := fun w F xs cs => ∃ s : Sl, cs = [s.v] /\ SliceF r size w F s xs /\ xs.length * bytes <= 140737488351232
theorem weightsAll_mem {e : TypeId} : ∀ {l : List (DataW H)} {d : DataW H}, d ∈ l -> ∀ n, n ∈ d.weights P e -> n ∈ DataW.weightsAll P e l
 | d0 :: l, d, hd, n, hn => by
  simp only [DataW.weightsAll, List.mem_append]
  rcases List.mem_cons.1 hd with rfl | hd
  · exact .inl hn
  · exact .inr (weightsAll_mem hd n hn)
 | [], d, hd, _, _ => by simp at hd
theorem choose_list {β : Type} {p : Nat -> β -> Prop} : ∀ (n : Nat), (∀ i, i < n -> ∃ b, p i b) -> ∃ l : List β, l.length = n /\ ∀ i b, l[i]? = some b -> p i b
 | 0, _ => ⟨[], rfl, fun i b h => by simp at h⟩
 | n + 1, h => by
  obtain ⟨l, h1, h2⟩ := choose_list n fun i hi => h i (by omega)
  obtain ⟨b, hb⟩ := h n (by omega)
  refine ⟨l ++ [b], by simp [h1], fun i c hc => ?_⟩
  by_cases hi : i < l.length
  · rw [List.getElem?_append_left hi] at hc; exact h2 i c hc
  · rw [List.getElem?_append_right (by omega)] at hc
    have : i = n := by
     have := (List.getElem?_eq_some_iff.1 hc).1
     simp at this
     omega
    subst this
    simp [h1] at hc
    rw [<- hc]; exact hb
theorem Opens.map {β : Type} {t : TypeId} {r : Rp α} {q : Rp β} (h : Opens enc P W base spare held t r) (f : α -> β) (hf : ∀ a cs, r W (fun _ => True) a cs -> q W (fun _ => True) (f a) cs) : Opens enc P W base spare held t q := fun fuel cs x hx hw => by
 obtain ⟨a, ha⟩ := h fuel cs x hx hw
 exact ⟨f a, hf a cs ha⟩
theorem weights_of {ts : List TypeId} {ds : List (DataW H)} (h : (DataW.weightsEach P ts ds).all (· <= reachBytes) = true) (j : Nat) {t : TypeId} {d : DataW H} (ht : ts[j]? = some t) (hd : ds[j]? = some d) : ∀ n, n ∈ d.weights P t -> n <= reachBytes :=
 fun n hn => by simpa using List.all_eq_true.1 h n (DataW.weights_mem_each ht hd n hn)
end
end Go.Kt
namespace Go.Proofs.Ytijipkdbkgafkaa.Con
open Go Go.RowKit Go.Kt Go.Kt.V Go.Proofs.Ytijipkdbkgafkaa.Vc
set_option linter.unusedSimpArgs false
set_option linter.unusedVariables false
set_option maxHeartbeats 1000000
set_option maxRecDepth 100000
theorem freeze_cell (w : World) (p : Addr) (n : Nat) (a : Addr) : (w.freeze p n).cell? a = w.cell? a := by
 unfold World.freeze
 split
 · rfl
 · unfold World.cell?
   simp only [Array.getElem?_modify]
   by_cases hpa : p.block = a.block
   · rw [if_pos hpa]
     cases h : w.heap[a.block]? with
     | none => rfl
     | some o =>
      cases o with
      | cells c e f => obtain ⟨lo, hi⟩ := f; rfl
      | _ => rfl
   · rw [if_neg hpa]
theorem freeze_only (w : World) (p : Addr) (n : Nat) : OnlyP (fun k => k = p.block) w (w.freeze p n) := by
 unfold World.freeze
 split
 · exact OnlyP.refl _ _
 · exact ⟨rfl, rfl, rfl, by simp, fun k hk hn => by
    simp only [Array.getElem?_modify]
    rw [if_neg fun e => hn e.symm]⟩
theorem els_by (l : List UInt8) (w : World) (F : Nat -> Prop) : Els rByte 1 w F l ((l.map byteV).map fun v => v.cells.toList) := by
 induction l with
 | nil => exact trivial
 | cons a l ih => exact ⟨⟨rfl, rfl⟩, ih⟩
theorem litB (w : World) (l : List UInt8) {n : Nat} {parts : Array (Nat × Value)} (hp : parts = (((l.map byteV).zipIdx 0).map fun x => (x.2, x.1)).toArray) (hl : l.length = n) (h0 : 0 < n) (hs : n * 1 <= 16777216) :
  ∃ s w1, (Instr.buildSlice 33 n parts).run Try.prog w = .ok (Sl.v s) w1 /\ ∃ w2, (convert 33 33 (Sl.v s)).run Try.prog w1 = .ok (Sl.v s) w2 /\ SliceF rByte 1 w2 (fun k => w.heap.size <= k /\ k < w2.heap.size) s l /\ Only [] w w2 := by
 obtain ⟨s, w1, h1, h2, h3, h4, h5, h6⟩ := build_own (P := Try.prog) (t := 33) (e := 5) (i := Try.t5) (w := w) (F := fun _ => False) (r := rByte) (size := 1) (vs := l.map byteV) (xs := l) (len := n) (parts := parts) (by kernel_rfl) (by kernel_rfl) rfl rfl (by decide) hp (by rw [List.length_map]; exact hl) h0 hs rByte_ok (els_by l w _)
 have hsl := flatB h2
 obtain ⟨g', css, tail, a1, a2, a4, _⟩ := h2.resolve_left (fun e => by rw [e.1] at h4; cases h4)
 rw [h4] at a1
 injection a1 with a1
 injection a1 with a1
 subst a1
 have hsh : w1.shape? w.heap.size = some (5, (css.flatten ++ tail).toArray.size) := by
  unfold World.shape?
  unfold Blk at a4
  rw [a4]
 have hu : Try.prog.underlying 33 = some (.slice 5) := by kernel_rfl
 have hu2 : Try.prog.underlying 5 = some (.int .u8) := by kernel_rfl
 have hO := freeze_only w1 ⟨w.heap.size, (css.flatten ++ tail).toArray.size, none⟩ 1
 have z1 := a4.lt
 have z2 := hO.size
 refine ⟨s, w1, h1, w1.freeze ⟨w.heap.size, (css.flatten ++ tail).toArray.size, none⟩ 1, ?_, ⟨hsl.len, hsl.cap, hsl.nil0, hsl.big, fun j x hj => ?_⟩, ?_⟩
 · unfold Sl.v
   rw [h4]
   simp [convert, run_underlying hu, run_underlying hu2, markStringish, hsh, Result.andThen]
 · obtain ⟨base, cs, g1, g2, g3, g4, g5⟩ := hsl.at_ j x hj
   have g2' : w.heap.size <= base.block /\ base.block < (w1.freeze ⟨w.heap.size, (css.flatten ++ tail).toArray.size, none⟩ 1).heap.size := by
    rw [g1] at h4
    injection h4 with h4
    have hb : base.block = w.heap.size := by rw [h4]
    exact ⟨by omega, by omega⟩
   exact ⟨base, cs, g1, g2', g3, fun q v hq => by rw [freeze_cell]; exact g4 q v hq, g5⟩
 · exact (h3.trP (hO.mono fun k _ hk => hk)).only fun k hk => by rw [hk]; exact Nat.le_refl _
theorem els_bs {w : World} : ∀ (l : List (Sl × List UInt8)), (∀ q, q ∈ l -> ∃ G, SliceF rByte 1 w G q.1 q.2) -> Els rBs 1 w (fun _ => True) (l.map (·.2)) ((l.map fun q => q.1.v).map fun v => v.cells.toList)
 | [], _ => trivial
 | q :: l, h => by
  obtain ⟨G, hG⟩ := h q (.head _)
  exact ⟨⟨rfl, q.1, rfl, SliceF.mono rByte_ok hG fun _ _ => trivial⟩, els_bs l fun x hx => h x (.tail _ hx)⟩
theorem litR (w : World) (l : List (Sl × List UInt8)) {n : Nat} {parts : Array (Nat × Value)} (hp : parts = (((l.map fun q => q.1.v).zipIdx 0).map fun x => (x.2, x.1)).toArray) (hl : l.length = n) (h0 : 0 < n) (hs : n * 1 <= 16777216) (h : ∀ q, q ∈ l -> ∃ G, SliceF rByte 1 w G q.1 q.2) :
  ∃ s w1, (Instr.buildSlice 58 n parts).run Try.prog w = .ok (Sl.v s) w1 /\ Own rBs 1 33 w.heap.size w1 (fun _ => True) s (l.map (·.2)) /\ Only [] w w1 /\ s.a = some ⟨w.heap.size, 0, none⟩ := by
 obtain ⟨s, w1, h1, h2, h3, h4, h5, h6⟩ := build_own (P := Try.prog) (t := 58) (e := 33) (i := Try.t33) (w := w) (F := fun _ => True) (r := rBs) (size := 1) (vs := l.map fun q => q.1.v) (xs := l.map (·.2)) (len := n) (parts := parts) (by kernel_rfl) (by kernel_rfl) rfl rfl (by decide) hp (by rw [List.length_map]; exact hl) h0 hs rBs_ok (els_bs l h)
 exact ⟨s, w1, h1, h2, h3, h4⟩
structure Dq (w u : World) (d : Nat) (D : Dk) (F : Nat -> Prop) : Prop where
 dsk : Dsk u d D F
 new : ∀ k, F k -> w.heap.size <= k
 only : Only [] w u
section
variable {w u u' : World} {d : Nat} {D D' : Dk} {F G : Nat -> Prop}
theorem Dq.skip (h : Dq w u d D F) (hO : Only [] u u') : Dq w u' d D F := by
 obtain ⟨⟨r, tb, h1⟩, h2, h3⟩ := h
 exact ⟨⟨r, tb, h1.only0 hO⟩, h2, h3.tr0 hO⟩
theorem Dq.aft (h : Dq w u d D F) (ha : Aft d D' F u u') : Dq w u' d D' (Gr F u u') := by
 have := h.only.size
 exact ⟨ha.1, fun k hk => hk.elim (h.new k) fun hk => Nat.le_trans this hk.1, (h.only.trP (F := F) ha.2).only h.new⟩
theorem Dq.append (h : Dq w u d D F) {parts : Sl} {ls : List (List UInt8)} (hp : SliceF rBs 1 u G parts ls) (ha : parts.a = none ∨ ∃ b, parts.a = some ⟨b, 0, none⟩) (hm : sumF D.fs + ls.flatten.length <= 140737488355328) (hn : ls.length <= 140737488355328) (s : List UInt8) :
  Calls Try.prog 10 #[.pointer (some ⟨d, 0, none⟩), .string (T s), parts.v] u fun e u' => e = .returned (.int .i64 (appD D s ls).1) /\ Dq w u' d (appD D s ls).2 (Gr F u u') := by
 obtain ⟨r, tb, h1⟩ := h.dsk
 exact (append_c h1 hp ha hm hn s).mono fun _ _ hh => ⟨hh.1, h.aft hh.2⟩
theorem Dq.sync (h : Dq w u d D F) (s : List UInt8) : Calls Try.prog 14 #[.pointer (some ⟨d, 0, none⟩), .string (T s)] u fun e u' => e = .returned (.int .i64 (syncD D s).1) /\ Dq w u' d (syncD D s).2 (Gr F u u') := by
 obtain ⟨r, tb, h1⟩ := h.dsk
 exact (sync_c h1 s).mono fun _ _ hh => ⟨hh.1, h.aft hh.2⟩
theorem Dq.cut (h : Dq w u d D F) (s : List UInt8) {n : Int} (hi : InI n) : Calls Try.prog 15 #[.pointer (some ⟨d, 0, none⟩), .string (T s), .int .i64 n] u fun e u' => e = .returned (.int .i64 (cutD D s n).1) /\ Dq w u' d (cutD D s n).2 (Gr F u u') := by
 obtain ⟨r, tb, h1⟩ := h.dsk
 exact (cut_c h1 s hi).mono fun _ _ hh => ⟨hh.1, h.aft hh.2⟩
theorem Dq.up (h : Dq w u d D F) : Calls Try.prog 11 #[.pointer (some ⟨d, 0, none⟩)] u fun e u' => e = .returned (.bool (!D.off)) /\ u' = u := by
 obtain ⟨r, tb, h1⟩ := h.dsk
 exact up_c h1
theorem Dq.free (h : Dq w u d D F) : Calls Try.prog 18 #[.pointer (some ⟨d, 0, none⟩)] u fun e u' => e = .returned (.int .i64 ((D.room : Int) - sumF D.fs)) /\ Dq w u' d D F /\ Only [] u u' := by
 obtain ⟨r, tb, h1⟩ := h.dsk
 exact (free_c h1).mono fun _ _ hh => ⟨hh.1, h.skip hh.2, hh.2⟩
theorem Dq.files (h : Dq w u d D F) (hn : D.fs.length <= 4194304) (hm : sumF D.fs <= 140737488355328) : Calls Try.prog 13 #[.pointer (some ⟨d, 0, none⟩)] u fun e u' => (∃ t : Sl, e = .returned t.v /\ Own rFl 3 38 u.heap.size u' (fun k => u.heap.size <= k) t D.fs) /\ Dq w u' d D F /\ Only [] u u' := by
 obtain ⟨r, tb, h1⟩ := h.dsk
 exact (files_c h1 hn hm).mono fun _ _ hh => ⟨hh.1, h.skip hh.2, hh.2⟩
theorem Dq.boot (h : Dq w u d D F) (hn : D.fs.length <= 4194304) (hm : sumF D.fs <= 140737488355328) {ka : Sl} {keep : List Int} (hk : SliceF rInt 1 u G ka keep) (hG : ∀ k, G k -> k < u.heap.size -> ¬ F k) :
  Calls Try.prog 12 #[.pointer (some ⟨d, 0, none⟩), ka.v] u fun e u' => e = .returned (.tuple #[]) /\ Dq w u' d (bootD D keep) (Gr F u u') := by
 obtain ⟨r, tb, h1⟩ := h.dsk
 exact (boot_c h1 hn hm hk hG).mono fun _ _ hh => ⟨hh.1, h.aft hh.2⟩
theorem Dq.heap (h : Dq w u d D F) : Dq w u d D (fun x => F x /\ x < u.heap.size) := by
 obtain ⟨⟨r, tb, h1⟩, h2, h3⟩ := h
 exact ⟨⟨r, tb, h1.heap⟩, fun k hk => h2 k hk.1, h3⟩
theorem Dq.inv (h : Dq w u d D F) : Inv D := by
 obtain ⟨r, tb, h1⟩ := h.dsk
 exact h1.inv
theorem cells_nth {a : Addr} {cs : List Value} (h : Cells u a cs) (i : Nat) {v : Value} (hv : cs[i]? = some v) : Cells u (a.add i) [v] := fun j x hj => by
 cases j with
 | zero =>
  simp only [List.getElem?_cons_zero, Option.some.injEq] at hj
  subst hj
  exact h i v hv
 | succ j => simp at hj
theorem file_at {t : Sl} {L : List Fl} {B : Nat} {e : TypeId} {H : Nat -> Prop} (h : Own rFl 3 e B u H t L) {i : Nat} {f : Fl} (hf : L[i]? = some f) : ∃ (ad : Addr) (s : Sl), SlAt t (i : Int) 3 ad /\ Cells u (ad.add 0) [.string (T f.nm)] /\ Cells u (ad.add 1) [s.v] /\ Cells u (ad.add 2) [.int .i64 (f.sf : Int)] /\ Own rByte 1 5 0 u (fun _ => False) s f.bs := by
 have hs := h.slice rFl_ok
 have hl := (List.getElem?_eq_some_iff.1 hf).1
 have hn := hs.len
 obtain ⟨ad, x, cs, g1, g2, g3, g4, g5, s, rfl, g6, g7⟩ := hs.get (i := (i : Int)) (Int.natCast_nonneg i) (by omega)
 rw [Int.toNat_natCast, hf] at g2
 injection g2 with g2
 subst g2
 exact ⟨ad, s, g1, cells_nth g5 0 rfl, cells_nth g5 1 rfl, cells_nth g5 2 rfl, g6⟩
end
theorem sm1 : appD (newD 4) [97] [[120], [121]] = (0, ⟨[⟨[97], [120, 121], 0⟩], false, none, 4⟩) := by kernel_rfl
theorem sm2 : syncD ⟨[⟨[97], [120, 121], 0⟩], false, none, 4⟩ [97] = (0, ⟨[⟨[97], [120, 121], 2⟩], false, none, 4⟩) := by kernel_rfl
theorem sm3 : appD ⟨[⟨[97], [120, 121], 2⟩], false, none, 4⟩ [97] [[122, 119]] = (0, ⟨[⟨[97], [120, 121, 122, 119], 2⟩], false, none, 4⟩) := by kernel_rfl
theorem sm4 : appD ⟨[⟨[97], [120, 121, 122, 119], 2⟩], false, none, 4⟩ [97] [[113]] = (52, ⟨[⟨[97], [120, 121, 122, 119], 2⟩], false, none, 4⟩) := by kernel_rfl
theorem sm5 : bootD ⟨[⟨[97], [120, 121, 122, 119], 2⟩], false, none, 4⟩ [1] = ⟨[⟨[97], [120, 121, 122], 3⟩], false, none, 4⟩ := by kernel_rfl
theorem lit1i (w : World) {a : Int} (ha : InI a) : ∃ s w1, (Instr.buildSlice 41 1 #[.mk 0 (.int .i64 a)]).run Try.prog w = .ok (Sl.v s) w1 /\ SliceF rInt 1 w1 (fun k => w.heap.size <= k) s [a] /\ Only [] w w1 := by
 obtain ⟨s, w1, h1, h2, h3, h4, h5, h6⟩ := build_own (P := Try.prog) (t := 41) (e := 3) (i := Try.t3) (w := w) (F := fun _ => False) (r := rInt) (size := 1) (vs := [.int .i64 a]) (xs := [a]) (len := 1) (parts := #[(0, .int .i64 a)]) (by kernel_rfl) (by kernel_rfl) rfl rfl (by decide) rfl rfl (by decide) (by decide) rInt_ok ⟨⟨rfl, rfl, ha⟩, trivial⟩
 exact ⟨s, w1, h1, SliceF.mono rInt_ok (h2.slice rInt_ok) fun k hk => hk.elim False.elim fun h => h.1, h3⟩
theorem dsmall_c (w : World) : Calls Try.prog 7 #[] w fun e w' => e = .returned (.bool true) /\ Only [] w w' := by
 refine ret (v29w (fun v w' => v = .bool true /\ Only [] w w') w ?_)
 unfold v29v
 refine (new_c w (room := 4) ⟨by decide, by decide⟩).mono ?_
 rintro _ w0 ⟨d, rfl, hd, hO0⟩
 have q0 : Dq w w0 d (newD 4) _ := ⟨hd, fun k hk => hk.1, hO0⟩
 refine ⟨_, rfl, fun h => (by cases h), fun _ => ?_⟩
 obtain ⟨l0, w1, b1, w2, b2, b3, b4⟩ := litB w0 [120] (n := 1) (parts := #[.mk 0 (.int .u8 120)]) rfl rfl (by decide) (by decide)
 obtain ⟨l2, w3, c1, w4, c2, c3, c4⟩ := litB w2 [121] (n := 1) (parts := #[.mk 0 (.int .u8 121)]) rfl rfl (by decide) (by decide)
 obtain ⟨l4, w5, d1, d2, d3, d4⟩ := litR w4 [(l0, [120]), (l2, [121])] (n := 2) (parts := #[.mk 0 l0.v, .mk 1 l2.v]) rfl rfl (by decide) (by decide) (fun q hq => by
  rcases List.mem_cons.1 hq with rfl | hq
  · exact ⟨_, SliceF.only rByte_ok (by decide) b3 c4 (by simp)⟩
  · rw [List.mem_singleton.1 hq]; exact ⟨_, c3⟩)
 refine ⟨l0, w1, b1, l0, w2, b2, l2, w3, c1, l2, w4, c2, l4, w5, d1, ?_⟩
 refine (((q0.skip b4).skip c4).skip d3).append (G := fun _ => True) (ls := [[120], [121]]) (SliceF.mono rBs_ok (d2.slice rBs_ok) fun _ _ => trivial) (.inr ⟨_, d4⟩) (by decide) (by decide) [97] |>.mono ?_
 rintro _ w6 ⟨rfl, q6⟩
 rw [sm1] at q6 ⊢
 refine ⟨_, rfl, (q6.sync [97]).mono ?_⟩
 rintro _ w7 ⟨rfl, q7⟩
 rw [sm2] at q7 ⊢
 obtain ⟨l5, w8, e1, w9, e2, e3, e4⟩ := litB w7 [122, 119] (n := 2) (parts := #[.mk 0 (.int .u8 122), .mk 1 (.int .u8 119)]) rfl rfl (by decide) (by decide)
 obtain ⟨l7, w10, f1, f2, f3, f4⟩ := litR w9 [(l5, [122, 119])] (n := 1) (parts := #[.mk 0 l5.v]) rfl rfl (by decide) (by decide) (fun q hq => by rw [List.mem_singleton.1 hq]; exact ⟨_, e3⟩)
 refine ⟨_, rfl, l5, w8, e1, l5, w9, e2, l7, w10, f1, ?_⟩
 refine ((q7.skip e4).skip f3).append (G := fun _ => True) (ls := [[122, 119]]) (SliceF.mono rBs_ok (f2.slice rBs_ok) fun _ _ => trivial) (.inr ⟨_, f4⟩) (by decide) (by decide) [97] |>.mono ?_
 rintro _ w11 ⟨rfl, q11⟩
 rw [sm3] at q11 ⊢
 obtain ⟨l8, w12, g1, w13, g2, g3, g4⟩ := litB w11 [113] (n := 1) (parts := #[.mk 0 (.int .u8 113)]) rfl rfl (by decide) (by decide)
 obtain ⟨l10, w14, h1, h2, h3, h4⟩ := litR w13 [(l8, [113])] (n := 1) (parts := #[.mk 0 l8.v]) rfl rfl (by decide) (by decide) (fun q hq => by rw [List.mem_singleton.1 hq]; exact ⟨_, g3⟩)
 refine ⟨_, rfl, l8, w12, g1, l8, w13, g2, l10, w14, h1, ?_⟩
 refine ((q11.skip g4).skip h3).append (G := fun _ => True) (ls := [[113]]) (SliceF.mono rBs_ok (h2.slice rBs_ok) fun _ _ => trivial) (.inr ⟨_, h4⟩) (by decide) (by decide) [97] |>.mono ?_
 rintro _ w15 ⟨rfl, q15⟩
 rw [sm4] at q15 ⊢
 obtain ⟨l11, w16, i1, i2, i3⟩ := lit1i w15 (a := 1) ⟨by decide, by decide⟩
 have q15 := q15.heap
 refine ⟨_, rfl, l11, w16, i1, ((q15.skip i3).boot (by decide) (by decide) i2 fun k hk _ hf => by have := hf.2; omega).mono ?_⟩
 rintro _ w17 ⟨rfl, q17⟩
 rw [sm5] at q17
 refine ⟨rfl, (q17.files (by decide) (by decide)).mono ?_⟩
 rintro _ w18 ⟨⟨l12, rfl, hl⟩, q18, hO18⟩
 have hn : l12.n = 1 := hl.len
 obtain ⟨ad, s, j1, j2, j3, j4, j5⟩ := file_at (f := ⟨[97], [120, 121, 122], 3⟩) hl (i := 0) rfl
 have hby := (SliceF.bytes (flatB j5)).rd
 refine ⟨l12, rfl, fun b u => b = true /\ Only [] w u, fun b u h => ⟨by rw [h.1], h.2⟩, ad, fun _ => j1, s, fun _ => j3, [120, 121, 122], fun _ => hby, ad, fun _ => j1, 3, fun _ => j4, fun _ => ⟨_, rfl, (q18.up).mono ?_⟩, fun hc => ?_⟩
 · rintro _ w20 ⟨rfl, hu⟩
   obtain rfl : w18 = w20 := hu.symm
   refine ⟨_, rfl, fun _ => (q18.free).mono ?_, fun h => (by cases h)⟩
   rintro _ w21 ⟨rfl, q21, _⟩
   exact ⟨_, rfl, rfl, q21.only⟩
 · rw [hn] at hc
   exact absurd hc (by simp [Lib.toList_data])
theorem cells_only {u u' : World} {a : Addr} {cs : List Value} (h : Cells u a cs) (hO : Only [] u u') : Cells u' a cs := fun j v hj => by
 have h1 := h j v hj
 have hlt : (a.add j).block < u.heap.size := by
  unfold World.cell? at h1
  rcases Nat.lt_or_ge (a.add j).block u.heap.size with hl | hl
  · exact hl
  · rw [Array.getElem?_eq_none hl] at h1
    simp at h1
 have := hO.block _ hlt (by simp)
 unfold World.cell? at h1 ⊢
 rw [this]
 exact h1
end Go.Proofs.Ytijipkdbkgafkaa.Con
namespace Go.Proofs.Ytijipkdbkgafkaa.Con
open Go Go.RowKit Go.Kt
set_option linter.unusedSimpArgs false
set_option linter.unusedVariables false
set_option maxHeartbeats 1000000
set_option maxRecDepth 100000
abbrev ActT := Int × ByteArray × ByteArray × List UInt8 × List UInt8 × Int × Int × List Int × Unit
def ActT.nm (x : ActT) : List UInt8 := x.2.1.data.toList
def ActT.to (x : ActT) : List UInt8 := x.2.2.1.data.toList
def ActT.b (x : ActT) : List UInt8 := x.2.2.2.1
def ActT.c (x : ActT) : List UInt8 := x.2.2.2.2.1
def ActT.n (x : ActT) : Int := x.2.2.2.2.2.1
def ActT.m (x : ActT) : Int := x.2.2.2.2.2.2.1
def ActT.l (x : ActT) : List Int := x.2.2.2.2.2.2.2.1
def mA (x : ActT) : Nat := x.b.length + x.c.length
def stepR (D : Dk) (x : ActT) : Int × Dk :=
 if x.1 = 0 then appD D x.nm [x.b, x.c] else if x.1 = 1 then syncD D x.nm else if x.1 = 2 then cutD D x.nm x.n else if x.1 = 3 then renD D x.nm x.to
 else if x.1 = 4 then remD D x.nm else if x.1 = 6 then (0, armD D x.n x.m) else if x.1 = 7 then (0, bootD D x.l) else (0, D)
theorem sum_le {α : Type} {l : List α} {f g : α -> Nat} (h : ∀ x, f x <= g x) : (l.map f).sum <= (l.map g).sum := by
 induction l with
 | nil => exact Nat.le_refl _
 | cons a l ih =>
  rw [List.map_cons, List.map_cons, List.sum_cons, List.sum_cons]
  have := h a
  omega
structure Le (D E : Dk) (m : Nat) : Prop where
 sum : sumF E.fs <= sumF D.fs + m
 len : E.fs.length <= D.fs.length + 1
 room : E.room = D.room
theorem Le.same (D : Dk) (m : Nat) : Le D D m := ⟨by omega, by omega, rfl⟩
theorem put_le {D : Dk} (hr : Rise D.fs) {f' : Fl} {s : List UInt8} {m : Nat} (hn : f'.nm = s) (hl : f'.bs.length <= (getF D s).bs.length + m) : sumF (putF f' D.fs) <= sumF D.fs + m := by
 have := putF_sum f' hr
 rw [hn] at this
 have gl : ((lookF D.fs s).map (·.bs.length)).getD 0 = (getF D s).bs.length := by
  rw [getF]
  cases lookF D.fs s <;> rfl
 rw [gl] at this
 omega
theorem put_len {l : List Fl} (hr : Rise l) (f : Fl) : (putF f l).length <= l.length + 1 := by
 rw [putF_len f hr]
 split <;> omega
theorem app_le {D : Dk} (h : Inv D) (s : List UInt8) (ls : List (List UInt8)) : Le D (appD D s ls).2 ls.flatten.length := by
 obtain ⟨e1, e2⟩ := cutP_fs D
 unfold appD
 split
 · exact Le.same _ _
 · split
   · exact Le.same _ _
   · split
     · exact Le.same _ _
     · rcases hc : cutP D with ⟨g, E⟩
       rw [hc] at e1 e2
       dsimp only at e1 e2
       cases g with
       | none =>
        refine ⟨?_, ?_, e2⟩
        · show sumF (putF _ E.fs) <= _
          rw [e1]
          exact put_le h.rise (s := s) (getF_nm D s) (by dsimp only; rw [List.length_append]; omega)
        · show (putF _ E.fs).length <= _
          rw [e1]
          exact put_len h.rise _
       | some p =>
        refine ⟨?_, ?_, e2⟩
        · show sumF (putF _ E.fs) <= _
          rw [e1]
          exact put_le h.rise (s := s) (getF_nm D s) (by dsimp only; rw [List.length_append, List.length_take]; omega)
        · show (putF _ E.fs).length <= _
          rw [e1]
          exact put_len h.rise _
theorem sync_le {D : Dk} (h : Inv D) (s : List UInt8) : Le D (syncD D s).2 0 := by
 obtain ⟨e1, e2⟩ := cutP_fs D
 unfold syncD
 split
 · exact Le.same _ _
 · rcases hc : cutP D with ⟨g, E⟩
   rw [hc] at e1 e2
   dsimp only at e1 e2
   cases g with
   | none =>
    refine ⟨?_, ?_, e2⟩
    · show sumF (putF _ E.fs) <= _
      rw [e1]
      exact put_le h.rise (s := s) (getF_nm D s) (Nat.le_refl _)
    · show (putF _ E.fs).length <= _
      rw [e1]
      exact put_len h.rise _
   | some p => exact ⟨by dsimp only; rw [e1]; omega, by dsimp only; rw [e1]; omega, e2⟩
theorem whole_le {D : Dk} {op : List Fl -> List Fl} (h1 : sumF (op D.fs) <= sumF D.fs) (h2 : (op D.fs).length <= D.fs.length + 1) : Le D (wholeD D op).2 0 := by
 obtain ⟨e1, e2⟩ := cutP_fs D
 unfold wholeD
 rcases hc : cutP D with ⟨g, E⟩
 rw [hc] at e1 e2
 dsimp only at e1 e2
 cases g with
 | none => exact ⟨by show sumF (op E.fs) <= _; rw [e1]; omega, by show (op E.fs).length <= _; rw [e1]; exact h2, e2⟩
 | some p =>
  dsimp only
  split
  · exact ⟨by show sumF (op E.fs) <= _; rw [e1]; omega, by show (op E.fs).length <= _; rw [e1]; exact h2, e2⟩
  · exact ⟨by rw [e1]; omega, by rw [e1]; omega, e2⟩
theorem cut_le {D : Dk} (h : Inv D) (s : List UInt8) (n : Int) : Le D (cutD D s n).2 0 := by
 unfold cutD
 split
 · exact Le.same _ _
 · split
   · exact Le.same _ _
   · exact whole_le (put_le h.rise (s := s) (m := 0) rfl (by dsimp only; rw [List.length_take]; omega)) (put_len h.rise _)
theorem find_some {D : Dk} {s : List UInt8} (h : ¬ findE D s ≠ 0) : ∃ f, lookF D.fs s = some f := by
 unfold findE at h
 split at h
 · simp at h
 · split at h
   · simp at h
   · rename_i hn
     cases hq : lookF D.fs s with
     | none => exact absurd hq hn
     | some f => exact ⟨f, rfl⟩
theorem ren_le {D : Dk} (h : Inv D) (a b : List UInt8) : Le D (renD D a b).2 0 := by
 unfold renD
 split
 · exact Le.same _ _
 · rename_i hf
   obtain ⟨f, hf⟩ := find_some hf
   split
   · exact Le.same _ _
   · rw [getF_some hf]
     refine whole_le ?_ ?_
     · have s1 := putF_sum { f with nm := b } (dropF_rise a h.rise)
       have s2 := dropF_sum h.rise hf
       dsimp only at s1 ⊢
       omega
     · have s1 := put_len (dropF_rise a h.rise) { f with nm := b }
       have s2 := dropF_len hf
       dsimp only at s1 ⊢
       omega
theorem rem_le {D : Dk} (h : Inv D) (s : List UInt8) : Le D (remD D s).2 0 := by
 unfold remD
 split
 · exact Le.same _ _
 · refine whole_le (sumF_sub (dropF_sub s D.fs)) ?_
   have := (dropF_sub s D.fs).length_le
   omega
theorem bootF_len {ks : List Int} {f : Fl} : (bootF ks f).bs.length <= f.bs.length := by
 unfold bootF
 dsimp only
 rw [List.length_take]
 exact Nat.min_le_right _ _
theorem bootL_le : ∀ (ks : List Int) (l : List Fl), sumF (bootL ks l) <= sumF l /\ (bootL ks l).length = l.length
 | _, [] => ⟨Nat.le_refl _, rfl⟩
 | ks, f :: l => by
  obtain ⟨h1, h2⟩ := bootL_le ks.tail l
  rw [bootL, sumF, sumF, List.length_cons, List.length_cons, h2]
  have := bootF_len (ks := ks) (f := f)
  exact ⟨by omega, rfl⟩
theorem boot_le (D : Dk) (ks : List Int) : Le D (bootD D ks) 0 := by
 obtain ⟨h1, h2⟩ := bootL_le ks D.fs
 exact ⟨h1, by show (bootL ks D.fs).length <= _; omega, rfl⟩
theorem step_le {D : Dk} (h : Inv D) (x : ActT) : Le D (stepR D x).2 (mA x) := by
 have up : ∀ {E : Dk}, Le D E 0 -> Le D E (mA x) := fun h => ⟨by have := h.sum; omega, h.len, h.room⟩
 unfold stepR
 split
 · have := app_le h x.nm [x.b, x.c]
   simpa [mA] using this
 · split
   · exact up (sync_le h _)
   · split
     · exact up (cut_le h _ _)
     · split
       · exact up (ren_le h _ _)
       · split
         · exact up (rem_le h _)
         · split
           · exact up ⟨Nat.le_refl _, Nat.le_succ _, rfl⟩
           · split
             · exact up (boot_le D _)
             · exact up (Le.same _ _)
end Go.Proofs.Ytijipkdbkgafkaa.Con
namespace Go.Kt
open Go Go.RowKit Go.ChangeShapes Go.WideShapes
set_option linter.unusedSimpArgs false
set_option linter.unusedVariables false
structure IsBulk {H : Type} (B : DataW H -> Nat) : Prop where
 one : ∀ d, 1 <= B d
 sl : ∀ e s, (e.map B).sum + 1 <= B (.slice e s)
 str : ∀ b, b.length + 1 <= B (.lit (.string b))
 agg : ∀ p, (p.map B).sum + 1 <= B (.agg p)
 ptr : ∀ d, B d + 1 <= B (.ptr d)
 iface : ∀ t d, B d + 1 <= B (.iface t d)
section
variable {H : Type} {enc : TypeId × Value -> H} {P : Program} {W : World} {base : Nat} {spare : Nat -> Bool} {held : Bool} {α β : Type} {B : DataW H -> Nat}
def rStr : Rp ByteArray := fun _ _ s cs => cs = [.string s] /\ s.size <= 140737488351232
theorem rStr_ok : rStr.Ok where
 keep h _ := h
 inHeap h := h
 mono h _ := h
 one := by
  rintro w F x cs ⟨rfl, _⟩ v hv
  simp only [List.mem_singleton] at hv
  subst hv; rfl
def OpensB (B : DataW H -> Nat) (enc : TypeId × Value -> H) (P : Program) (W : World) (base : Nat) (spare : Nat -> Bool) (held : Bool) (t : TypeId) (r : Rp α) (m : α -> Nat) : Prop :=
 ∀ (fuel : Nat) (cs : List Value) (x : DataW H × List MemPlace), DataW.trod enc P W base spare held fuel t cs = some x -> (∀ n, n ∈ x.1.weights P t -> n <= reachBytes) -> ∃ a : α, r W (fun _ => True) a cs /\ m a <= B x.1
theorem opensB_of (hB : IsBulk B) {t : TypeId} {r : Rp α} (h : Opens enc P W base spare held t r) : OpensB B enc P W base spare held t r fun _ => 1 := fun fuel cs x hx hw => by
 obtain ⟨a, ha⟩ := h fuel cs x hx hw
 exact ⟨a, ha, hB.one _⟩
theorem opensB_str (hB : IsBulk B) {t : TypeId} (ht : P.underlying t = some .string) : OpensB B enc P W base spare held t rStr fun s => s.size + 1 := fun fuel cs x h hw => by
 obtain ⟨s, rfl, rfl, hs⟩ := DataW.trod_string ht h
 have h1 := hw _ (by simp only [DataW.weights]; exact List.mem_cons_self)
 have e : s.data.toList.length = s.size := by rw [Array.length_toList]; rfl
 simp only [e, reachBytes] at h1
 refine ⟨s, ⟨rfl, ?_⟩, ?_⟩
 · omega
 · have := hB.str s.data.toList
   rw [e] at this
   exact this
theorem sum_le {p : α -> Nat} {g : Nat -> Nat} : ∀ {l : List α} {o : Nat}, (∀ i b, l[i]? = some b -> p b <= g (o + i)) -> (l.map p).sum <= ((List.range l.length).map fun i => g (o + i)).sum
 | [], _, _ => by simp
 | a :: l, o, h => by
  rw [List.length_cons, List.range_succ_eq_map, List.map_cons, List.map_cons, List.sum_cons, List.sum_cons, List.map_map]
  have h0 := h 0 a rfl
  have ih := sum_le (p := p) (g := g) (l := l) (o := o + 1) fun i b hb => by
   have := h (i + 1) b hb
   rw [show o + 1 + i = o + (i + 1) by omega]
   exact this
  refine Nat.add_le_add h0 (Nat.le_trans ih (Nat.le_of_eq ?_))
  congr 1
  refine List.map_congr_left fun i _ => ?_
  show g _ = g _
  congr 1
  omega
theorem opensB_slice (hB : IsBulk B) {t e : TypeId} {r : Rp α} {m : α -> Nat} {size : Nat} (ht : P.underlying t = some (.slice e)) (hs : P.cellsOf e = size) {bytes : Nat} (hb : P.bytesOf e = bytes) (he : OpensB B enc P W base spare held e r m) :
  OpensB B enc P W base spare held t (rSl r size bytes) fun xs => (xs.map m).sum + 1 := fun fuel cs x h hw => by
 subst hs
 rcases Deep.open_slice ht h with ⟨rfl, rfl⟩ | ⟨a, len, cap, mm, n, D, Pl, rfl, _, hl, hm, hmm, rfl, hel⟩
 · exact ⟨[], ⟨Sl.nil, rfl, SliceF.nil _ _ _ _, by simp⟩, hB.one _⟩
 · have hlm : len <= mm := by rw [hmm]; split <;> omega
   have hex : ∀ i, i < len -> ∃ b : α, (∃ cs', cs'.length = P.cellsOf e /\ Cells W (a.add (i * P.cellsOf e)) cs' /\ r W (fun _ => True) b cs') /\ m b <= B (D i) := fun i hi => by
    obtain ⟨cs', g1, g2⟩ := hel i (by omega)
    obtain ⟨_, g3, g4⟩ := World.cells?_some g1
    obtain ⟨b, g5, g6⟩ := he n cs' _ g2 fun k hk => hw k (by
     simp only [DataW.weights, ht, List.mem_cons, List.mem_append]
     exact .inr (.inl (weightsAll_mem (List.mem_map.2 ⟨i, List.mem_range.2 hi, rfl⟩) k hk)))
    refine ⟨b, ⟨cs', g3, fun j v hj => ?_, g5⟩, g6⟩
    rw [g4 j (by have := (List.getElem?_eq_some_iff.1 hj).1; omega)]
    exact hj
   obtain ⟨l, h1, h2⟩ := choose_list len hex
   refine ⟨l, ⟨⟨some a, len, cap⟩, rfl, ⟨h1.symm, hl, fun h => (by cases h), hm, fun j x hj => ?_⟩, ?_⟩, ?_⟩
   · obtain ⟨⟨cs', g1, g2, g3⟩, _⟩ := h2 j x hj
     exact ⟨a, cs', rfl, trivial, g1, g2, g3⟩
   · have := hw _ (by simp only [DataW.weights, ht]; exact List.mem_cons_self)
     rw [hb] at this
     simp only [List.length_map, List.length_range, reachBytes] at this
     rw [h1]
     have h3 : len * bytes <= (len + (mm - len)) * bytes := Nat.mul_le_mul_right _ (by omega)
     omega
   · have h3 := hB.sl ((List.range len).map D) ((List.range (mm - len)).map fun j => D (len + j))
     refine Nat.le_trans (Nat.succ_le_succ ?_) h3
     have h4 := sum_le (p := m) (g := fun i => B (D i)) (l := l) (o := 0) fun i b hb => by
      rw [Nat.zero_add]
      exact (h2 i b hb).2
     rw [h1] at h4
     rw [List.map_map]
     simpa [Function.comp_def] using h4
def FOpenB (B : DataW H -> Nat) (enc : TypeId × Value -> H) (P : Program) (W : World) (base : Nat) (spare : Nat -> Bool) (held : Bool) (T off : Nat) (fs : List Field) (r : Rp α) (m : α -> Nat) : Prop :=
 ∀ (n : Nat) (cs : List Value) (xs : List (DataW H × List MemPlace)), cs.length = T -> xs.length = fs.length ->
  (∀ (i : Nat) (f : Field), fs[i]? = some f -> DataW.trod enc P W base spare held n f.type ((cs.drop f.offset).take (P.cellsOf f.type)) = xs[i]?) ->
  (∀ (i : Nat) (f : Field) (x : DataW H × List MemPlace), fs[i]? = some f -> xs[i]? = some x -> ∀ k, k ∈ x.1.weights P f.type -> k <= reachBytes) -> ∃ a : α, r W (fun _ => True) a (cs.drop off) /\ m a <= (xs.map fun x => B x.1).sum
theorem foB_nil {T off : Nat} (h : T = off) : FOpenB B enc P W base spare held T off [] rUnit fun _ => 0 := fun n cs xs hl _ _ _ => ⟨(), by
 show cs.drop off = []
 exact List.drop_eq_nil_of_le (by omega), Nat.zero_le _⟩
theorem foB_cons {T off s : Nat} {f : Field} {fs : List Field} {r : Rp α} {q : Rp β} {m : α -> Nat} {m' : β -> Nat} (ho : f.offset = off) (hs : P.cellsOf f.type = s) (hr : OpensB B enc P W base spare held f.type r m) (hq : FOpenB B enc P W base spare held T (off + s) fs q m') :
  FOpenB B enc P W base spare held T off (f :: fs) (rPair r q) fun x => m x.1 + m' x.2 := fun n cs xs hl hx hf hw => by
 cases xs with
 | nil => simp at hx
 | cons x xs =>
  have h0 := hf 0 f rfl
  rw [ho, hs] at h0
  obtain ⟨a, ha, ha'⟩ := hr n _ x h0 (hw 0 f x rfl rfl)
  obtain ⟨b, hb, hb'⟩ := hq n cs xs hl (by simpa using hx) (fun i g hg => hf (i + 1) g hg) (fun i g y hg hy => hw (i + 1) g y hg hy)
  refine ⟨(a, b), ⟨_, _, by rw [<- List.drop_drop, List.take_append_drop], ha, hb⟩, ?_⟩
  rw [List.map_cons, List.sum_cons]
  exact Nat.add_le_add ha' hb'
theorem opensB_struct (hB : IsBulk B) {t : TypeId} {fs : Array Field} {T : Nat} {r : Rp α} {m : α -> Nat} (ht : P.underlying t = some (.struct fs)) (hT : P.cellsOf t = T) (hF : FOpenB B enc P W base spare held T 0 fs.toList r m) : OpensB B enc P W base spare held t r fun x => m x + 1 := fun fuel cs x h hw => by
 obtain ⟨xs, n, rfl, rfl, hl, hxl, hf⟩ := DataW.trod_struct ht h
 obtain ⟨a, ha, ha'⟩ := hF n cs xs (by omega) (by simpa using hxl) (fun i f hi => hf i f (by simpa using hi)) (fun i f x hi hx k hk => hw k (by
  simp only [DataW.weights, ht]
  refine DataW.weights_mem_each (j := i) ?_ (by rw [List.getElem?_map, hx]; rfl) k hk
  simp only [Array.toList_map, List.getElem?_map, hi]
  rfl))
 refine ⟨a, by simpa using ha, Nat.le_trans (Nat.succ_le_succ ha') ?_⟩
 have := hB.agg (xs.map (·.1))
 rwa [List.map_map] at this
theorem OpensB.map {t : TypeId} {r : Rp α} {q : Rp β} {m : α -> Nat} {m' : β -> Nat} (h : OpensB B enc P W base spare held t r m) (f : α -> β) (hf : ∀ a cs, r W (fun _ => True) a cs -> q W (fun _ => True) (f a) cs /\ m' (f a) <= m a) : OpensB B enc P W base spare held t q m' := fun fuel cs x hx hw => by
 obtain ⟨a, ha, ha'⟩ := h fuel cs x hx hw
 obtain ⟨h1, h2⟩ := hf a cs ha
 exact ⟨f a, h1, Nat.le_trans h2 ha'⟩
theorem argB_slice {t e : TypeId} {r : Rp α} {m : List α -> Nat} {size bytes : Nat} {b0 : Nat} {v : Value} {d : DataW H} {p : List MemPlace} (ht : P.underlying t = some (.slice e)) (hok : Value.okWide P W .any b0 t v) (h : DataW.Trod enc P W base spare held t v d p)
  (hop : OpensB B enc P W base spare held t (rSl r size bytes) m) (hw : ∀ n, n ∈ d.weights P t -> n <= reachBytes) : ∃ (s : Sl) (xs : List α), v = s.v /\ SliceF r size W (fun _ => True) s xs /\ m xs <= B d := by
 obtain ⟨a0, len0, cap0, rfl⟩ := okWide_slice ht hok
 obtain ⟨fuel, hf⟩ := h
 obtain ⟨xs, ⟨s, h1, h2, h3⟩, h4⟩ := hop fuel _ _ hf hw
 have h1 : [Value.slice a0 len0 cap0] = [s.v] := h1
 simp only [List.cons.injEq, and_true] at h1
 exact ⟨s, xs, h1, h2, h4⟩
theorem sum_one : ∀ l : List α, (l.map fun _ => 1).sum = l.length
 | [] => rfl
 | _ :: l => by rw [List.map_cons, List.sum_cons, sum_one l, List.length_cons]; omega
end
end Go.Kt
namespace Go.Proofs.Ytijipkdbkgafkaa.Con
open Go Go.RowKit Go.Kt Go.Kt.V Go.Proofs.Ytijipkdbkgafkaa.Vc
set_option linter.unusedSimpArgs false
set_option linter.unusedVariables false
set_option maxHeartbeats 1000000
set_option maxRecDepth 100000
theorem rSl_ok {α : Type} {r : Rp α} {size bytes : Nat} (hr : r.Ok) (h0 : 0 < size) : (rSl r size bytes).Ok where
 keep := by
  rintro w w' F x cs ⟨s, h1, h2, h3⟩ hk
  exact ⟨s, h1, h2.keep hr h0 hk, h3⟩
 inHeap := by
  rintro w F x cs ⟨s, h1, h2, h3⟩
  exact ⟨s, h1, h2.inHeap hr h0, h3⟩
 mono := by
  rintro w F G x cs ⟨s, h1, h2, h3⟩ hk
  exact ⟨s, h1, h2.mono hr hk, h3⟩
 one := by
  rintro w F x cs ⟨s, rfl, _⟩ v hv
  simp only [List.mem_singleton] at hv
  subst hv
  rfl
def rFq : Rp Fl := fun w F f cs => ∃ t : Sl, cs = [.string (T f.nm), t.v, .int .i64 (f.sf : Int)] /\ SliceF rByte 1 w F t f.bs
theorem rFq_ok : rFq.Ok where
 keep := fun ⟨t, h1, h2⟩ hk => ⟨t, h1, SliceF.keep rByte_ok h2 (by decide) hk⟩
 inHeap := fun ⟨t, h1, h2⟩ => ⟨t, h1, SliceF.inHeap rByte_ok h2 (by decide)⟩
 mono := fun ⟨t, h1, h2⟩ hk => ⟨t, h1, SliceF.mono rByte_ok h2 hk⟩
 one := fun ⟨t, h1, h2⟩ v hv => by
  subst h1
  simp only [List.mem_cons, List.not_mem_nil, or_false] at hv
  rcases hv with rfl | rfl | rfl <;> rfl
theorem fq_of {w : World} {F : Nat -> Prop} {f : Fl} {cs : List Value} (h : rFl w F f cs) : rFq w F f cs := by
 obtain ⟨t, h1, h2, h3⟩ := h
 exact ⟨t, h1, SliceF.mono rByte_ok (flatB h2) fun k hk => h3 k hk.2⟩
theorem slImp {α : Type} {r q : Rp α} {size : Nat} {w : World} {F : Nat -> Prop} {s : Sl} {xs : List α} (h : SliceF r size w F s xs) (hi : ∀ x cs, x ∈ xs -> r w F x cs -> q w F x cs) : SliceF q size w F s xs :=
 ⟨h.len, h.cap, h.nil0, h.big, fun j x hx => by
  obtain ⟨base, cs, h1, h2, h3, h4, h5⟩ := h.at_ j x hx
  exact ⟨base, cs, h1, h2, h3, h4, hi x cs (List.mem_of_getElem? hx) h5⟩⟩
theorem told {w : World} {B : Nat} {t : Sl} {L : List Fl} (h : Own rFl 3 38 B w (fun k => B <= k) t L) : SliceF rFq 3 w (fun k => B <= k) t L :=
 slImp (SliceF.mono rFl_ok (h.slice rFl_ok) fun k hk => hk.elim id fun h => h.1) fun _ _ _ h => fq_of h
section
variable {w u u' : World} {d : Nat} {D D' : Dk} {F G : Nat -> Prop}
theorem fq_at {t : Sl} {L : List Fl} (h : SliceF rFq 3 u F t L) {i : Nat} {f : Fl} (hf : L[i]? = some f) : ∃ (ad : Addr) (s : Sl), SlAt t (i : Int) 3 ad /\ Cells u (ad.add 0) [.string (T f.nm)] /\ Cells u (ad.add 1) [s.v] /\ Cells u (ad.add 2) [.int .i64 (f.sf : Int)] /\ SliceF rByte 1 u F s f.bs := by
 have hl := (List.getElem?_eq_some_iff.1 hf).1
 have hn := h.len
 obtain ⟨ad, x, cs, g1, g2, g3, g4, g5, s, rfl, g6⟩ := h.get (i := (i : Int)) (Int.natCast_nonneg i) (by omega)
 rw [Int.toNat_natCast, hf] at g2
 injection g2 with g2
 subst g2
 exact ⟨ad, s, g1, cells_nth g5 0 rfl, cells_nth g5 1 rfl, cells_nth g5 2 rfl, g6⟩
abbrev rAct : Rp ActT := rPair rInt (rPair rStr (rPair rStr (rPair (rSl rByte 1 1) (rPair (rSl rByte 1 1) (rPair rInt (rPair rInt (rPair (rSl rInt 1 8) rUnit)))))))
theorem rAct_ok : rAct.Ok := rPair_ok rInt_ok (rPair_ok rStr_ok (rPair_ok rStr_ok (rPair_ok (rSl_ok rByte_ok (by decide)) (rPair_ok (rSl_ok rByte_ok (by decide)) (rPair_ok rInt_ok (rPair_ok rInt_ok (rPair_ok (rSl_ok rInt_ok (by decide)) rUnit_ok)))))))
theorem sum_take {acts : List ActT} {n : Nat} {x : ActT} (h : acts[n]? = some x) : ((acts.take (n + 1)).map mA).sum = ((acts.take n).map mA).sum + mA x := by
 rw [List.take_add_one, h]
 simp
theorem sum_take_le (acts : List ActT) (n : Nat) : ((acts.take n).map mA).sum <= (acts.map mA).sum := by
 induction acts generalizing n with
 | nil => simp
 | cons a l ih =>
  cases n with
  | zero => simp
  | succ n =>
   rw [List.take_succ_cons, List.map_cons, List.map_cons, List.sum_cons, List.sum_cons]
   have := ih n
   omega
end
theorem sumF_take {l : List Fl} {n : Nat} {f : Fl} (h : l[n]? = some f) : sumF (l.take (n + 1)) = sumF (l.take n) + f.bs.length := by
 induction l generalizing n with
 | nil => simp at h
 | cons a l ih =>
  cases n with
  | zero =>
   simp only [List.getElem?_cons_zero, Option.some.injEq] at h
   subst h
   simp [sumF]
  | succ n =>
   rw [List.take_succ_cons, List.take_succ_cons, sumF, sumF, ih (by simpa using h)]
   omega
theorem sumF_take_le (l : List Fl) (n : Nat) : sumF (l.take n) <= sumF l := sumF_sub (List.take_sublist n l)
abbrev rcs (L : Sl) (room : Int) (off armed : Bool) (acts part : Int) : List Value := [L.v, .int .i64 room, .bool off, .bool armed, .int .i64 acts, .int .i64 part]
structure RfP (w : World) (x : Nat) (D : Dk) (L : Sl) (F : Nat -> Prop) : Prop where
 blk : ∃ armed acts part, Blk w x 74 (rcs L D.room D.off armed acts part) /\ Pw D armed acts part
 row : Own rFq 3 38 0 w (fun k => F k /\ k ≠ x) L D.fs
 out : ∀ g, L.a = some ⟨g, 0, none⟩ -> F g /\ g ≠ x
 hx : F x
 inv : Inv D
section
variable {w w' : World} {x : Nat} {D : Dk} {L : Sl} {F G : Nat -> Prop} {s : List UInt8}
theorem RfP.lt (h : RfP w x D L F) : x < w.heap.size := by
 obtain ⟨_, _, _, hb, _⟩ := h.blk
 exact hb.lt
theorem RfP.keep (h : RfP w x D L F) (hk : ∀ k, F k -> k < w.heap.size -> w'.heap[k]? = w.heap[k]?) : RfP w' x D L F := by
 obtain ⟨a, b, c, hb, hp⟩ := h.blk
 exact ⟨⟨a, b, c, (hk x h.hx hb.lt).trans hb, hp⟩, h.row.keep rFq_ok fun k hk' hlt => hk k (hk'.elim (fun h => h.1) fun hh => (h.out k hh.2).1) hlt, h.out, h.hx, h.inv⟩
theorem RfP.only0 (h : RfP w x D L F) (hO : Only [] w w') : RfP w' x D L F := h.keep fun k _ hlt => hO.block k hlt (by simp)
theorem RfP.mono (h : RfP w x D L F) (hk : ∀ k, k < w.heap.size -> F k -> G k) : RfP w x D L G :=
 ⟨h.blk, (h.row.inHeap rFq_ok).mono rFq_ok fun k hh => ⟨hk k hh.2 hh.1.1, hh.1.2⟩, fun g hg => ⟨hk g (h.row.blk hg).2 (h.out g hg).1, (h.out g hg).2⟩, hk x h.lt h.hx, h.inv⟩
theorem RfP.sl (h : RfP w x D L F) : SliceF rFq 3 w F L D.fs := SliceF.mono rFq_ok (h.row.slice rFq_ok) fun k hk => hk.elim (fun h => h.1) fun hh => (h.out k hh.2).1
theorem RfP.lc (h : RfP w x D L F) : Cells w ((⟨x, 0, none⟩ : Addr).add 0) [L.v] := by
 obtain ⟨a, b, c, hb, _⟩ := h.blk
 exact Blk.at1 hb 0 rfl
theorem RfP.offc (h : RfP w x D L F) : Cells w ((⟨x, 0, none⟩ : Addr).add 2) [.bool D.off] := by
 obtain ⟨a, b, c, hb, _⟩ := h.blk
 exact Blk.at1 hb 2 rfl
theorem RfP.turn (h : RfP w x D L F) (hO : Only [x] w w') {off armed : Bool} {acts part : Int} {pw : Option (Nat × Int)} (hB : Blk w' x 74 (rcs L D.room off armed acts part)) (hp : Pw { D with off := off, pw := pw } armed acts part) : RfP w' x { D with off := off, pw := pw } L F :=
 ⟨⟨armed, acts, part, hB, hp⟩, h.row.keep rFq_ok fun k hk hlt => hO.block k hlt (by simp only [List.mem_singleton]; exact hk.elim (fun h => h.2) fun hh => (h.out k hh.2).2), h.out, h.hx, ⟨h.inv.rise, h.inv.safe, h.inv.nam, h.inv.sum, h.inv.big⟩⟩
theorem RfP.hang (h : RfP w x D L F) (hO : Only [x] w w') {L' : Sl} {l : List Fl} {armed : Bool} {acts part : Int} (hB : Blk w' x 74 (rcs L' D.room D.off armed acts part)) (hp : Pw D armed acts part) (hr : Own rFq 3 38 0 w (fun k => G k /\ k ≠ x) L' l) (ho : ∀ g, L'.a = some ⟨g, 0, none⟩ -> G g /\ g ≠ x) (hx : G x) (hi : Inv (setFs D l)) : RfP w' x (setFs D l) L' G :=
 ⟨⟨armed, acts, part, hB, hp⟩, hr.keep rFq_ok fun k hk hlt => hO.block k hlt (by simp only [List.mem_singleton]; exact hk.elim (fun h => h.2) fun hh => (ho k hh.2).2), ho, hx, hi⟩
theorem rgoes_c (h : RfP w x D L F) : Calls Try.prog 53 #[.pointer (some ⟨x, 0, none⟩)] w fun e w' => e = .returned (.bool (cutP D).1.isSome) /\ RfP w' x (cutP D).2 L F /\ Only [x] w w' := by
 refine ret (v41w ⟨x, 0, none⟩ (fun v w' => v = .bool (cutP D).1.isSome /\ RfP w' x (cutP D).2 L F /\ Only [x] w w') w ?_)
 unfold v41v
 obtain ⟨armed, acts, part, hb, hp⟩ := h.blk
 have or : Only [x] w w := (Only.refl [] w).weaken fun _ h => (by cases h)
 refine ⟨armed, Blk.at1 hb 3 rfl, acts, fun _ => Blk.at1 hb 4 rfl, fun hc => ?_, fun hc => ?_⟩
 · simp only [Bool.and_eq_true, beq_iff_eq] at hc
   obtain ⟨ha, hz⟩ := hc
   have e : cutP D = (some part, { D with pw := none, off := true }) := by
    unfold Pw at hp
    unfold cutP
    split at hp
    · rw [ha] at hp; cases hp
    · rename_i a q hq
      obtain ⟨_, h1, rfl, _⟩ := hp
      obtain rfl : a = 0 := by omega
      rw [hq]
   rw [e]
   refine ⟨x, 3, _, _, rfl, hb, by simp, fun w0 hO0 hB0 => ⟨x, 2, _, _, rfl, hB0, by simp [splice], fun w1 hO1 hB1 => ⟨rfl, ?_, ?_⟩⟩⟩
   · exact h.turn (hO0.trans hO1 fun x hx => .inl hx) (off := true) (pw := none) hB1 rfl
   · exact hO0.trans hO1 fun x hx => .inl hx
 · refine ⟨fun u => RfP u x (cutP D).2 L F /\ Only [x] w u /\ (cutP D).1 = none, fun u hJ => ⟨by rw [hJ.2.2]; rfl, hJ.1, hJ.2.1⟩, armed, Blk.at1 hb 3 rfl, fun ha => ?_, fun ha => ?_⟩
   · rw [ha] at hc
     have hz : ¬ acts = 0 := by simpa using hc
     unfold Pw at hp
     split at hp
     · rw [ha] at hp; cases hp
     · rename_i a q hq
       obtain ⟨_, rfl, rfl, hab⟩ := hp
       obtain ⟨a, rfl⟩ : ∃ b, a = b + 1 := ⟨a - 1, by omega⟩
       have e : cutP D = (none, { D with pw := some (a, part) }) := by unfold cutP; rw [hq]
       rw [e]
       refine ⟨_, Blk.at1 hb 4 rfl, x, 4, _, _, rfl, hb, by simp, fun w3 hO hB => ⟨?_, hO, rfl⟩⟩
       have hw : IntKind.wrap .i64 (((a + 1 : Nat) : Int) - 1) = (a : Int) := by rw [wr' (by omega) (by omega)]; omega
       rw [hw] at hB
       exact h.turn hO (off := D.off) (pw := some (a, part)) hB ⟨ha, rfl, rfl, by omega⟩
   · have e : cutP D = (none, D) := by
      unfold Pw at hp
      unfold cutP
      split at hp
      · rename_i hq; rw [hq]
      · rw [ha] at hp; cases hp.1
     rw [e]
     exact ⟨h, or, rfl⟩
theorem rmod_c (n : Int) {k : Nat} (hk : 0 < k) (hb : k <= 1152921504606846976) : Calls Try.prog 54 #[.int .i64 n, .int .i64 (k : Int)] w fun e w' => e = .returned (.int .i64 (modI n k : Int)) /\ w' = w := by
 refine ret (v45w n (k : Int) (fun v w' => v = .int .i64 (modI n k : Int) /\ w' = w) w ?_)
 unfold v45v
 have h1 := Int.lt_tmod_of_pos n (b := (k : Int)) (by omega)
 have h2 := Int.tmod_lt_of_pos n (b := (k : Int)) (by omega)
 have e := modI_eq n hk
 have low : ∀ {y : Int}, 0 <= y -> y < (k : Int) -> y.tmod k = y := fun h0 hlt => Int.tmod_eq_of_lt h0 hlt
 refine ⟨by omega, fun i u => i = (modI n k : Int) /\ u = w, fun i u h => ⟨by rw [h.1], h.2⟩, fun hc => ?_, fun hc => ?_⟩
 · have hc : n.tmod k < 0 := of_decide_eq_true hc
   refine ⟨?_, rfl⟩
   have hl := low (y := n.tmod k + k) (by omega) (by omega)
   rw [wr' (by omega) (by omega), e, hl]
 · have hc : ¬ n.tmod k < 0 := of_decide_eq_false hc
   refine ⟨?_, rfl⟩
   rw [e, Int.tmod_eq_emod_of_nonneg (a := n.tmod k + k) (by omega), Int.add_emod_right, Int.emod_eq_of_lt (by omega) h2]
theorem rend_c (g : Bool) : Calls Try.prog 57 #[.bool g] w fun e w' => e = .returned (.int .i64 (if g then 50 else 0)) /\ w' = w := by
 refine ret (v44w g (fun v w' => v = .int .i64 (if g then 50 else 0) /\ w' = w) w ?_)
 unfold v44v
 exact ⟨fun h => ⟨by rw [h]; rfl, rfl⟩, fun h => ⟨by rw [h]; rfl, rfl⟩⟩
theorem rat_c (h : RfP w x D L F) (s : List UInt8) : Calls Try.prog 55 #[.pointer (some ⟨x, 0, none⟩), .string (T s)] w fun e w' => (∃ i : Int, e = .returned (.int .i64 i) /\ ((i = -1 /\ lookF D.fs s = none) ∨ ∃ (n : Nat) (f : Fl), i = (n : Int) /\ D.fs[n]? = some f /\ lookF D.fs s = some f)) /\ w' = w := by
 refine (v39w ⟨x, 0, none⟩ (T s) (fun v w' => (∃ i : Int, v = .int .i64 i /\ ((i = -1 /\ lookF D.fs s = none) ∨ ∃ (n : Nat) (f : Fl), i = (n : Int) /\ D.fs[n]? = some f /\ lookF D.fs s = some f)) /\ w' = w) w ?_).mono (by
  rintro _ w' ⟨v, rfl, ⟨i, rfl, h⟩, h'⟩; exact ⟨⟨i, rfl, h⟩, h'⟩)
 unfold v39v
 have hs := h.sl
 have h1 := hs.len
 have h2 := hs.cap
 have h3 := hs.big
 refine ⟨fun nv i u => ∃ n : Nat, i = (n : Int) /\ nv + n = D.fs.length /\ u = w /\ ∀ f, f ∈ D.fs.take n -> f.nm ≠ s, D.fs.length, ⟨0, rfl, rfl, rfl, by simp⟩, ?_⟩
 rintro nv _ u ⟨n, rfl, hnv, hu, hne⟩
 obtain rfl : w = u := hu.symm
 refine ⟨L, h.lc, fun hlt => ?_, fun hge => ?_⟩
 · have hlt : (n : Int) < (L.n : Int) := of_decide_eq_true hlt
   have hnl : n < D.fs.length := by omega
   obtain ⟨p, a, a1, a2, a3, a4, a5⟩ := fq_at hs (List.getElem?_eq_getElem hnl)
   have eab : ((T D.fs[n].nm).toList == (T s).toList) = decide (D.fs[n].nm = s) := by
    rw [Lib.toList_data, Lib.toList_data, Bool.eq_iff_iff]
    simp
   refine ⟨L, h.lc, p, a1, _, a2, fun hc => ?_, fun hc => ⟨nv - 1, by omega, n + 1, by rw [wr' (by omega) (by omega)]; rfl, by omega, rfl, fun f hf => ?_⟩⟩
   · rw [eab, decide_eq_true_eq] at hc
     have := h.inv.rise.lookF (List.getElem_mem hnl)
     rw [hc] at this
     exact ⟨⟨_, rfl, .inr ⟨n, _, rfl, List.getElem?_eq_getElem hnl, this⟩⟩, rfl⟩
   · rw [eab, decide_eq_false_iff_not] at hc
     rw [List.take_add_one, List.getElem?_eq_getElem hnl, List.mem_append] at hf
     rcases hf with hf | hf
     · exact hne f hf
     · simp only [Option.toList_some, List.mem_singleton] at hf
       rw [hf]; exact hc
 · have hge : ¬ (n : Int) < (L.n : Int) := of_decide_eq_false hge
   have hn : n = D.fs.length := by omega
   subst hn
   rw [List.take_length] at hne
   exact ⟨⟨-1, rfl, .inl ⟨rfl, lookF_none.2 hne⟩⟩, rfl⟩
theorem rfree_c (h : RfP w x D L F) : Calls Try.prog 49 #[.pointer (some ⟨x, 0, none⟩)] w fun e w' => e = .returned (.int .i64 ((D.room : Int) - sumF D.fs)) /\ w' = w := by
 refine ret (v34w ⟨x, 0, none⟩ (fun v w' => v = .int .i64 ((D.room : Int) - sumF D.fs) /\ w' = w) w ?_)
 unfold v34v
 obtain ⟨a, b, c, hb, _⟩ := h.blk
 have hs := h.sl
 have h1 := hs.len
 have h2 := hs.cap
 have h3 := hs.big
 have i1 := h.inv.sum
 have i2 := h.inv.big
 refine ⟨_, Blk.at1 hb 1 rfl, fun nv y i u => ∃ n : Nat, i = (n : Int) /\ nv + n = D.fs.length /\ u = w /\ y = (D.room : Int) - sumF (D.fs.take n), D.fs.length, ⟨0, rfl, rfl, rfl, by simp [sumF]⟩, ?_⟩
 rintro nv _ _ u ⟨n, rfl, hnv, hu, rfl⟩
 obtain rfl : w = u := hu.symm
 refine ⟨L, h.lc, fun hlt => ?_, fun hge => ?_⟩
 · have hlt : (n : Int) < (L.n : Int) := of_decide_eq_true hlt
   have hnl : n < D.fs.length := by omega
   obtain ⟨p, a, a1, a2, a3, a4, a5⟩ := fq_at hs (List.getElem?_eq_getElem hnl)
   have hal := a5.len
   have htk := sumF_take (List.getElem?_eq_getElem hnl)
   have htl := sumF_take_le D.fs (n + 1)
   exact ⟨L, h.lc, p, a1, a, a3, nv - 1, by omega, n + 1, by rw [wr' (by omega) (by omega)]; rfl, by omega, rfl, by rw [wr' (by omega) (by omega)]; omega⟩
 · have hge : ¬ (n : Int) < (L.n : Int) := of_decide_eq_false hge
   have hn : n = D.fs.length := by omega
   subst hn
   rw [List.take_length]
   exact ⟨rfl, rfl⟩
theorem rnew_c (w : World) {room : Int} (hi : InI room) : Calls Try.prog 20 #[.int .i64 room] w fun e w' => ∃ x, e = .returned (.pointer (some ⟨x, 0, none⟩)) /\ RfP w' x (newD room) Sl.nil (fun k => w.heap.size <= k /\ k < w'.heap.size) /\ Only [] w w' := by
 refine (v43w room (fun v w' => ∃ x, v = .pointer (some ⟨x, 0, none⟩) /\ RfP w' x (newD room) Sl.nil (fun k => w.heap.size <= k /\ k < w'.heap.size) /\ Only [] w w') w ?_).mono (by
  rintro _ w' ⟨v, rfl, d, rfl, h⟩; exact ⟨d, rfl, h⟩)
 unfold v43v
 intro k0 w1 hk0 hk0' hO1 hB
 have er : (if 0 > room then 0 else room) = ((room.toNat : Nat) : Int) := by split <;> omega
 rw [er] at hB
 obtain ⟨hi1, hi2⟩ := hi
 exact ⟨k0, rfl, ⟨⟨false, 0, 0, hB, rfl⟩, Own.nil _ _ _ _ _ _, fun g hg => (by cases hg), ⟨hk0, hk0'⟩, ⟨.nil, fun f h => (by cases h), fun f h => (by cases h), Nat.zero_le _, by show room.toNat <= _; omega⟩⟩, hO1⟩
theorem rarm_c (h : RfP w x D L F) {n q : Int} (hi : InI n) : Calls Try.prog 46 #[.pointer (some ⟨x, 0, none⟩), .int .i64 n, .int .i64 q] w fun e w' => e = .returned (.tuple #[]) /\ RfP w' x (armD D n q) L F /\ Only [x] w w' := by
 refine ret (v31w ⟨x, 0, none⟩ n q (fun v w' => v = .tuple #[] /\ RfP w' x (armD D n q) L F /\ Only [x] w w') w ?_)
 unfold v31v
 obtain ⟨a0, b0, c0, hb, _⟩ := h.blk
 refine ⟨x, 3, _, _, rfl, hb, by simp, fun w0 hO0 hB0 => ⟨x, 4, _, _, rfl, hB0, by simp [splice], fun w1 hO1 hB1 => ⟨x, 5, _, _, rfl, hB1, by simp [splice], fun w2 hO2 hB2 => ?_⟩⟩⟩
 have o : Only [x] w w2 := (hO0.trans hO1 fun x hx => .inl hx).trans hO2 fun x hx => .inl hx
 refine ⟨rfl, h.turn o (off := D.off) (pw := if 0 <= n then some (n.toNat, q) else none) (armed := decide (n >= 0)) (acts := n) (part := q) hB2 ?_, o⟩
 unfold Pw
 obtain ⟨hi1, hi2⟩ := hi
 by_cases hn : 0 <= n
 · simp only [if_pos hn]
   exact ⟨decide_eq_true hn, by omega, trivial, by omega⟩
 · simp only [if_neg hn]
   exact decide_eq_false hn
end
def doneB (f : Fl) : List Fl -> Bool
 | [] => false
 | a :: l => decide (f.nm < a.nm) || doneB f l
theorem doneB_snoc (f a : Fl) : ∀ l : List Fl, doneB f (l ++ [a]) = (doneB f l || decide (f.nm < a.nm))
 | [] => by simp [doneB]
 | b :: l => by rw [List.cons_append, doneB, doneB, doneB_snoc f a l, Bool.or_assoc]
theorem doneB_mem {f : Fl} : ∀ {l : List Fl}, doneB f l = true -> ∃ g, g ∈ l /\ f.nm < g.nm
 | a :: l, h => by
  rw [doneB, Bool.or_eq_true, decide_eq_true_eq] at h
  rcases h with h | h
  · exact ⟨a, .head _, h⟩
  · obtain ⟨g, h1, h2⟩ := doneB_mem h
    exact ⟨g, .tail _ h1, h2⟩
theorem dropF_snoc (s : List UInt8) (a : Fl) : ∀ l : List Fl, dropF s (l ++ [a]) = dropF s l ++ if a.nm = s then [] else [a]
 | [] => by
  rw [List.nil_append]
  by_cases h : a.nm = s <;> simp [dropF, h]
 | b :: l => by
  rw [List.cons_append, dropF, dropF, dropF_snoc s a l]
  split <;> rfl
theorem put_done (f a : Fl) : ∀ {l : List Fl}, doneB f l = true -> putF f (l ++ [a]) = putF f l ++ [a]
 | b :: l, h => by
  rw [List.cons_append, putF, putF]
  by_cases h1 : f.nm < b.nm
  · rw [if_pos h1, if_pos h1]; rfl
  · rw [if_neg h1, if_neg h1]
    by_cases h2 : b.nm = f.nm
    · rw [if_pos h2, if_pos h2]; rfl
    · rw [doneB, decide_eq_false h1, Bool.false_or] at h
      rw [if_neg h2, if_neg h2, put_done f a h]; rfl
theorem put_end (f : Fl) : ∀ {l : List Fl}, Rise l -> doneB f l = false -> dropF f.nm l ++ [f] = putF f l
 | [], _, _ => rfl
 | b :: l, hr, h => by
  obtain ⟨h1, h2⟩ := List.pairwise_cons.1 hr
  rw [doneB, Bool.or_eq_false_iff, decide_eq_false_iff_not] at h
  rw [dropF, putF, if_neg h.1]
  split
  · rename_i hb
    have hl : l = [] := by
     cases l with
     | nil => rfl
     | cons c l =>
      have := h1 c (.head _)
      rw [hb] at this
      have h3 := h.2
      rw [doneB, decide_eq_true this] at h3
      cases h3
    subst hl
    rfl
  · rw [List.cons_append, put_end f h2 h.2]
theorem put_in (f a : Fl) (ha : f.nm < a.nm) : ∀ {l : List Fl}, Rise l -> doneB f l = false -> dropF f.nm l ++ [f] ++ [a] = putF f (l ++ [a])
 | [], _, _ => by rw [List.nil_append, putF, if_pos ha]; rfl
 | b :: l, hr, h => by
  obtain ⟨h1, h2⟩ := List.pairwise_cons.1 hr
  rw [doneB, Bool.or_eq_false_iff, decide_eq_false_iff_not] at h
  rw [List.cons_append, dropF, putF, if_neg h.1]
  split
  · rename_i hb
    have hl : l = [] := by
     cases l with
     | nil => rfl
     | cons c l =>
      have := h1 c (.head _)
      rw [hb] at this
      have h3 := h.2
      rw [doneB, decide_eq_true this] at h3
      cases h3
    subst hl
    rfl
  · rw [<- put_in f a ha h2 h.2]; rfl
def outL (f : Fl) (l : List Fl) : List Fl := if doneB f l = true then putF f l else dropF f.nm l
theorem less_T (a b : List UInt8) : Op.bytesLess (T a).toList (T b).toList = decide (a < b) := by
 rw [Go.Proofs.bytesLess_eq, Lib.toList_data, Lib.toList_data]
theorem eq_T (a b : List UInt8) : ((T a).toList == (T b).toList) = decide (a = b) := by
 rw [Lib.toList_data, Lib.toList_data, Bool.eq_iff_iff]
 simp
section
variable {w w' : World} {x : Nat} {D : Dk} {L : Sl} {F G H : Nat -> Prop} {s : List UInt8}
theorem RfP.sl' (h : RfP w x D L F) : SliceF rFq 3 w (fun k => F k /\ k ≠ x) L D.fs := SliceF.mono rFq_ok (h.row.slice rFq_ok) fun k hk => hk.elim id fun hh => h.out k hh.2
theorem fq_all {t : Sl} {l : List Fl} (h : SliceF rFq 3 w F t l) {i : Nat} {f : Fl} (hf : l[i]? = some f) : ∃ (ad : Addr) (s : Sl), SlAt t (i : Int) 3 ad /\ Cells w (ad.add 0) [.string (T f.nm)] /\ Cells w ad [.string (T f.nm), s.v, .int .i64 (f.sf : Int)] /\ SliceF rByte 1 w F s f.bs := by
 have hl := (List.getElem?_eq_some_iff.1 hf).1
 have hn := h.len
 obtain ⟨ad, x, cs, g1, g2, g3, g4, g5, s, rfl, g6⟩ := h.get (i := (i : Int)) (Int.natCast_nonneg i) (by omega)
 rw [Int.toNat_natCast, hf] at g2
 injection g2 with g2
 subst g2
 exact ⟨ad, s, g1, cells_nth g5 0 rfl, g5, g6⟩
theorem app_fq {u : World} {B : Nat} {R : Nat -> Prop} {l : Sl} {fs : List Fl} {t : Sl} {f : Fl} (h : Own rFq 3 38 B u R l fs) (hB : B <= u.heap.size) (ht : SliceF rByte 1 u H t f.bs) (hR : ∀ k, H k -> k < u.heap.size -> R k /\ k < B) (hR2 : ∀ k, B <= k -> R k) (hn : fs.length <= 1000000) :
  ∃ l5 w7, (Instr.buildSlice 35 1 #[.mk 0 (.agg #[.string (T f.nm), t.v, .int .i64 (f.sf : Int)])]).run Try.prog u = .ok (Sl.v l5) w7 /\ Only [] u w7 /\ ∃ l6 w8, (Builtin.append_ #[35, 35] 35 #[Sl.v l, Sl.v l5]).run Try.prog w7 = .ok (Sl.v l6) w8 /\ OnlyP (fun k => B <= k) w7 w8 /\ Own rFq 3 38 B w8 R l6 (fs ++ [f]) := by
 have hx : rFq u H f [.string (T f.nm), t.v, .int .i64 (f.sf : Int)] := ⟨t, rfl, ht⟩
 obtain ⟨y, w7, k1, k3, l6, w8, m1, m2, ⟨gs, m3, m4⟩, m5⟩ := app_one (P := Try.prog) (t := 35) (ty := 35) (e := 38) (i := Try.t38) (bytes := 48) (size := 3) (r := rFq) (G := H) (v := .agg #[.string (T f.nm), t.v, .int .i64 (f.sf : Int)]) (x := f) (by kernel_rfl) (by kernel_rfl) rfl rfl rfl rfl (by decide) (by decide) (by decide) rFq_ok h hB rfl hx (fun k hk hlt => ⟨(hR k hk hlt).1, fun ha => by have := (h.blk ha).1; have := (hR k hk hlt).2; dsimp only at *; omega⟩) (by omega)
 exact ⟨y, w7, k1, k3, l6, w8, m1, m3.p fun b hb => .inl (m4 b hb).2.1, m2.mono rFq_ok fun k hk => hk.elim id fun h => hR2 k (by omega)⟩
theorem rput_c0 (h : RfP w x D L F) (hFh : ∀ k, F k -> k < w.heap.size) {t : Sl} {f : Fl} (ht : SliceF rByte 1 w H t f.bs) (hH : ∀ k, H k -> F k /\ k ≠ x) (hi : Inv (setFs D (putF f D.fs))) (hn : D.fs.length <= 100000) :
  Calls Try.prog 56 #[.pointer (some ⟨x, 0, none⟩), .agg #[.string (T f.nm), t.v, .int .i64 (f.sf : Int)]] w fun e w' => e = .returned (.tuple #[]) /\ (∃ L', RfP w' x (setFs D (putF f D.fs)) L' (Gr F w w')) /\ OnlyP F w w' := by
 refine ret (v42w ⟨x, 0, none⟩ (T f.nm) t (f.sf : Int) (fun v w' => v = .tuple #[] /\ (∃ L', RfP w' x (setFs D (putF f D.fs)) L' (Gr F w w')) /\ OnlyP F w w') w ?_)
 unfold v42v
 intro k0 w0 hk0 hk0' hO0
 have z0 := hO0.size
 have xlt := h.lt
 have h0 := h.only0 hO0
 have hs0 := h0.sl'
 have h1 := hs0.len
 have h2 := hs0.cap
 have h3 := hs0.big
 have ht0 := SliceF.only rByte_ok (by decide) ht hO0 (by simp)
 have lc : ∀ {u : World}, OnlyP (fun k => w0.heap.size <= k) w0 u -> Cells u ((⟨x, 0, none⟩ : Addr).add 0) [L.v] := fun hO => (h0.keep (hO.keeps (G := F) fun k hk hh => by have := hFh k hk; omega)).lc
 have sl : ∀ {u : World}, OnlyP (fun k => w0.heap.size <= k) w0 u -> SliceF rFq 3 u (fun k => F k /\ k ≠ x) L D.fs := fun hO => SliceF.onlyP rFq_ok (by decide) hs0 hO fun k hk _ hh => by have := hFh k hk.1; omega
 have tl : ∀ {u : World}, OnlyP (fun k => w0.heap.size <= k) w0 u -> SliceF rByte 1 u H t f.bs := fun hO => SliceF.onlyP rByte_ok (by decide) ht0 hO fun k hk _ hh => by have := hFh k (hH k hk).1; omega
 have hR : ∀ k, F k /\ k ≠ x -> ((F k /\ k ≠ x) ∨ w0.heap.size <= k) /\ k < w0.heap.size := fun k hk => ⟨.inl hk, by have := hFh k hk.1; omega⟩
 have sm : ∀ {u u' : World}, w0.heap.size <= u.heap.size -> Only [] u u' -> Same [k0] u u' := fun hz hO => hO.same (by simp; omega)
 have smp : ∀ {u u' : World}, w0.heap.size <= u.heap.size -> OnlyP (fun k => w0.heap.size <= k) u u' -> Same [k0] u u' := fun hz hO => hO.same (by simp; omega)
 have onp : ∀ {u u' : World}, OnlyP (fun k => w0.heap.size <= k) w0 u -> Only [] u u' -> OnlyP (fun k => w0.heap.size <= k) w0 u' := fun h1 h2 => h1.tr0 h2
 refine ⟨fun nv l b i u => ∃ n : Nat, i = (n : Int) /\ nv + n = D.fs.length /\ b = doneB f (D.fs.take n) /\ OnlyP (fun k => w0.heap.size <= k) w0 u /\ Own rFq 3 38 w0.heap.size u (fun k => (F k /\ k ≠ x) ∨ w0.heap.size <= k) l (outL f (D.fs.take n)), D.fs.length, ⟨0, rfl, rfl, rfl, OnlyP.refl _ _, Own.nil _ _ _ _ _ _⟩, ?_⟩
 rintro nv l0 _ _ w1 ⟨n, rfl, hnv, rfl, hO1, hown⟩
 have z1 := hO1.size
 refine ⟨L, lc hO1, fun hlt => ?_, fun hge => ?_⟩
 · have hlt : (n : Int) < (L.n : Int) := of_decide_eq_true hlt
   have hnl : n < D.fs.length := by omega
   obtain ⟨a, ha⟩ : ∃ a, D.fs[n]? = some a := ⟨_, List.getElem?_eq_getElem hnl⟩
   have htk : D.fs.take (n + 1) = D.fs.take n ++ [a] := by rw [List.take_add_one, ha]; rfl
   have hrise : Rise (D.fs.take n ++ [a]) := by rw [<- htk]; exact h.inv.rise.sublist (List.take_sublist _ _)
   have hrn : Rise (D.fs.take n) := h.inv.rise.sublist (List.take_sublist _ _)
   have hgt : ∀ g, g ∈ D.fs.take n -> g.nm < a.nm := fun g hg => (List.pairwise_append.1 hrise).2.2 g hg a (.head _)
   have hdone : doneB f (D.fs.take n) = true -> f.nm < a.nm := fun hd => by
    obtain ⟨g, g1, g2⟩ := doneB_mem hd
    exact List.lt_trans g2 (hgt g g1)
   have hlen : (outL f (D.fs.take n)).length <= 1000000 - 1 := by
    have : (D.fs.take n).length <= D.fs.length := by rw [List.length_take]; omega
    unfold outL
    split
    · have := put_len hrn f; omega
    · have := (dropF_sub f.nm (D.fs.take n)).length_le; omega
   obtain ⟨ad, ta, a1, a2, a3, a4⟩ := fq_all (sl hO1) ha
   refine ⟨fun l b u => b = doneB f (D.fs.take (n + 1)) /\ OnlyP (fun k => w0.heap.size <= k) w0 u /\ Own rFq 3 38 w0.heap.size u (fun k => (F k /\ k ≠ x) ∨ w0.heap.size <= k) l (outL f (D.fs.take (n + 1))), fun l b u hJ => ⟨nv - 1, by omega, n + 1, by rw [wr' (by omega) (by omega)]; rfl, by omega, hJ.1, hJ.2.1, hJ.2.2⟩, L, lc hO1, ad, a1, _, a2, fun hc w3 hO3 => ?_, fun hc w4 hO4 => ?_⟩
   · rw [eq_T, decide_eq_true_eq] at hc
     have nd : doneB f (D.fs.take n) = false := by
      cases hd : doneB f (D.fs.take n) with
      | false => rfl
      | true => have := hdone hd; rw [hc] at this; exact absurd this (List.lt_irrefl _)
     have nl : ¬ f.nm < a.nm := by rw [hc]; exact List.lt_irrefl _
     refine ⟨?_, onp hO1 hO3, ?_⟩
     · rw [htk, doneB_snoc, nd, decide_eq_false nl]; rfl
     · have e : outL f (D.fs.take (n + 1)) = outL f (D.fs.take n) := by
        unfold outL
        rw [htk, doneB_snoc, nd, decide_eq_false nl, dropF_snoc, if_pos hc, List.append_nil]; rfl
       rw [e]
       exact hown.keep rFq_ok fun k _ hlt => hO3.block k hlt (by simp)
   · rw [eq_T, decide_eq_false_iff_not] at hc
     have o4 := onp hO1 hO4
     have z4 := hO4.size
     have hown4 := hown.keep (w' := w4) rFq_ok fun k _ hlt => hO4.block k hlt (by simp)
     obtain ⟨ad4, ta4, b1, b2, b3, b4⟩ := fq_all (sl o4) ha
     refine ⟨fun l b u => b = doneB f (D.fs.take (n + 1)) /\ OnlyP (fun k => w0.heap.size <= k) w0 u /\ ∃ pre, Own rFq 3 38 w0.heap.size u (fun k => (F k /\ k ≠ x) ∨ w0.heap.size <= k) l pre /\ pre.length <= 1000000 /\ outL f (D.fs.take (n + 1)) = pre ++ [a], ?_, L, fun _ => lc o4, ad4, fun _ => b1, T a.nm, fun _ => b2, fun hc2 w8 hO8 => ?_, fun hc2 w11 hO11 => ?_⟩
     · rintro l4 _ w5 ⟨rfl, o5, pre, p1, p2, p3⟩
       have z5 := o5.size
       obtain ⟨ad5, ta5, c1, c2, c3, c4⟩ := fq_all (sl o5) ha
       obtain ⟨l7, w6, k1, k2, l8, w7, k3, k4, k5⟩ := app_fq p1 z5 c4 (fun k hk _ => hR k hk) (fun k hk => .inr hk) p2
       have z6 := k2.size
       refine ⟨L, lc o5, ad5, c1, _, _, _, c3, l7, w6, k1, sm z5 k2, l8, w7, k3, smp (by omega) k4, rfl, (onp o5 k2).trans k4 fun k hk => .inl hk, ?_⟩
       rw [p3]
       exact k5
     · rw [less_T, eq_T] at hc2
       simp only [Bool.and_eq_true, Bool.not_eq_true', Bool.or_eq_false_iff, decide_eq_false_iff_not] at hc2
       obtain ⟨nd, hn1, hn2⟩ := hc2
       have hlt2 := lt_of_not hn1 hn2
       have o8 := onp o4 hO8
       have z8 := o8.size
       obtain ⟨l10, w9, k1, k2, l11, w10, k3, k4, k5⟩ := app_fq (hown4.keep (w' := w8) rFq_ok fun k _ hlt => hO8.block k hlt (by simp)) z8 (tl o8) (fun k hk _ => hR k (hH k hk)) (fun k hk => .inr hk) (by omega)
       have z9 := k2.size
       refine ⟨l10, w9, k1, sm z8 k2, l11, w10, k3, smp (by omega) k4, ?_, (onp o8 k2).trans k4 fun k hk => .inl hk, _, k5, by rw [List.length_append, List.length_singleton]; omega, ?_⟩
       · rw [htk, doneB_snoc, decide_eq_true hlt2, Bool.or_true]
       · unfold outL
         rw [htk, doneB_snoc, decide_eq_true hlt2, Bool.or_true, if_pos rfl, nd, if_neg (by simp), put_in f a hlt2 hrn nd]
     · have o11 := onp o4 hO11
       have hown11 := hown4.keep (w' := w11) rFq_ok fun k _ hlt => hO11.block k hlt (by simp)
       rw [less_T, eq_T] at hc2
       cases hd : doneB f (D.fs.take n) with
       | true =>
        have hfa := hdone hd
        refine ⟨by rw [htk, doneB_snoc, hd]; rfl, o11, _, hown11, by omega, ?_⟩
        unfold outL
        rw [htk, doneB_snoc, hd, Bool.true_or, if_pos rfl, if_pos rfl, put_done f a hd]
       | false =>
        rw [hd] at hc2
        have hnf : ¬ f.nm < a.nm := fun hfa => by
         have e1 : decide (a.nm < f.nm) = false := decide_eq_false fun hh => absurd (List.lt_trans hh hfa) (List.lt_irrefl _)
         have e2 : decide (a.nm = f.nm) = false := decide_eq_false hc
         rw [e1, e2] at hc2
         cases hc2
        refine ⟨by rw [htk, doneB_snoc, hd, decide_eq_false hnf]; rfl, o11, _, hown11, by omega, ?_⟩
        unfold outL
        rw [htk, doneB_snoc, hd, decide_eq_false hnf, Bool.or_false, if_neg (by simp), if_neg (by simp), dropF_snoc, if_neg hc]
 · have hge : ¬ (n : Int) < (L.n : Int) := of_decide_eq_false hge
   have hn2 : n = D.fs.length := by omega
   subst hn2
   rw [List.take_length] at hown
   rw [List.take_length]
   have hlen : (outL f D.fs).length <= 1000000 := by
    unfold outL
    split
    · have := put_len h.inv.rise f; omega
    · have := (dropF_sub f.nm D.fs).length_le; omega
   refine ⟨fun l u => OnlyP (fun k => w0.heap.size <= k) w0 u /\ Own rFq 3 38 w0.heap.size u (fun k => (F k /\ k ≠ x) ∨ w0.heap.size <= k) l (putF f D.fs), ?_, fun hd => ?_, fun hd => ?_⟩
   · rintro l12 w12 ⟨o12, own12⟩
     have z12 := o12.size
     have h12 := h0.keep (o12.keeps (G := F) fun k hk hh => by have := hFh k hk; omega)
     obtain ⟨a, b, c, hb, hp⟩ := h12.blk
     refine ⟨x, 0, _, _, rfl, hb, by simp, by omega, fun w13 hO13 hB13 => ⟨rfl, ⟨l12, ?_⟩, ?_⟩⟩
     · have := h12.hang (G := fun k => F k ∨ (w.heap.size <= k /\ k < w13.heap.size)) hO13 (L' := l12) (l := putF f D.fs) hB13 hp (((own12.inHeap rFq_ok).mono rFq_ok fun k hk => by
        have := hO13.size
        rcases hk.1 with hh | hh
        · exact ⟨.inl hh.1, hh.2⟩
        · exact ⟨.inr ⟨by omega, by omega⟩, by omega⟩).low (Nat.zero_le _)) (fun g hg => by
        have := own12.blk hg
        have := hO13.size
        dsimp only at *
        exact ⟨.inr ⟨by omega, by omega⟩, by omega⟩) (.inl h.hx) hi
       exact this
     · exact hO0.trP ((o12.only fun k hk => hk).trP (hO13.p fun b hb => .inl (by simp at hb; rw [hb]; exact h.hx)))
   · have nd : doneB f D.fs = false := by simpa using hd
     obtain ⟨l10, w9, k1, k2, l11, w10, k3, k4, k5⟩ := app_fq hown z1 (tl hO1) (fun k hk _ => hR k (hH k hk)) (fun k hk => .inr hk) hlen
     have z9 := k2.size
     refine ⟨l10, w9, k1, sm z1 k2, l11, w10, k3, smp (by omega) k4, (onp hO1 k2).trans k4 fun k hk => .inl hk, ?_⟩
     have e : outL f D.fs ++ [f] = putF f D.fs := by
      unfold outL
      rw [nd, if_neg (by simp), put_end f h.inv.rise nd]
     rw [<- e]
     exact k5
   · have hd : doneB f D.fs = true := by simpa using hd
     refine ⟨hO1, ?_⟩
     unfold outL at hown
     rw [if_pos hd] at hown
     exact hown
end
theorem putF_set {f y : Fl} (hn : y.nm = f.nm) : ∀ {l : List Fl} {n : Nat}, Rise l -> l[n]? = some f -> putF y l = l.set n y
 | a :: l, 0, _, h => by
  simp only [List.getElem?_cons_zero, Option.some.injEq] at h
  subst h
  rw [putF, if_neg (by rw [hn]; exact List.lt_irrefl _), if_pos hn.symm]
  rfl
 | a :: l, n + 1, hr, h => by
  obtain ⟨h1, h2⟩ := List.pairwise_cons.1 hr
  have hf : l[n]? = some f := by simpa using h
  have hlt := h1 f (List.mem_of_getElem? hf)
  rw [putF, if_neg (by rw [hn]; exact fun h => absurd (List.lt_trans h hlt) (List.lt_irrefl _)), if_neg (by rw [hn]; exact fun e => by rw [e] at hlt; exact absurd hlt (List.lt_irrefl _)), putF_set hn h2 hf]
  rfl
def AftR (x : Nat) (D' : Dk) (F : Nat -> Prop) (w w' : World) : Prop := (∃ L', RfP w' x D' L' (Gr F w w')) /\ OnlyP F w w'
section
variable {w w' u u' : World} {x : Nat} {D D' : Dk} {L : Sl} {F G H R : Nat -> Prop} {s a b : List UInt8}
theorem AftR.of (h : RfP w' x D' L F) (hO : OnlyP F w w') : AftR x D' F w w' := ⟨⟨L, h.mono fun k _ hk => .inl hk⟩, hO⟩
theorem AftR.same (h : RfP w x D L F) (hO : Only [] w w') : AftR x D F w w' := AftR.of (h.only0 hO) hO.p0
theorem AftR.mono (h : AftR x D' F w w') (hF : ∀ k, F k -> G k) : AftR x D' G w w' := by
 obtain ⟨⟨L, h1⟩, h2⟩ := h
 exact ⟨⟨L, h1.mono fun k _ hk => hk.imp (hF k) id⟩, h2.mono fun k _ hk => hF k hk⟩
theorem RfP.heap (h : RfP w x D L F) : RfP w x D L (fun k => F k /\ k < w.heap.size) := h.mono fun k hk hf => ⟨hf, hk⟩
theorem AftR.trans {E : Dk} (h1 : OnlyP F w u) (h2 : AftR x E (fun k => F k ∨ (w.heap.size <= k /\ k < u.heap.size)) u u') : AftR x E F w u' := by
 obtain ⟨⟨L, h3⟩, h4⟩ := h2
 have z1 := h1.size
 have z2 := h4.size
 refine ⟨⟨L, h3.mono fun k hk hf => ?_⟩, h1.trans h4 fun k hk => hk.imp id fun h => h.1⟩
 rcases hf with (hf | hf) | hf
 · exact .inl hf
 · exact .inr ⟨by omega, hk⟩
 · exact .inr ⟨by omega, hk⟩
theorem oneF (h : RfP w x D L F) (hO : Only [x] u u') : OnlyP F u u' := hO.p fun b hb => .inl (by simp at hb; rw [hb]; exact h.hx)
theorem RfP.ofRow {l : List Fl} (h : RfP w x D L F) (hO : OnlyP (fun k => k ≠ x) w w') (hr : Own rFq 3 38 0 w' (fun k => F k /\ k ≠ x) L l) (hi : Inv (setFs D l)) : RfP w' x (setFs D l) L F := by
 obtain ⟨p, q, r, hb, hp⟩ := h.blk
 exact ⟨⟨p, q, r, hO.blk hb (by simp), hp⟩, hr, h.out, h.hx, hi⟩
theorem fq_set {B : Nat} {l : List Fl} {n : Nat} {f : Fl} (h : Own rFq 3 38 B u R L l) (hf : l[n]? = some f) : ∃ (g : Nat) (cells : List Value) (t : Sl), L.a = some ⟨g, 0, none⟩ /\ SlAt L (n : Int) 3 ⟨g, n * 3, none⟩ /\ Blk u g 38 cells /\ Cells u ⟨g, n * 3, none⟩ [.string (T f.nm), t.v, .int .i64 (f.sf : Int)] /\ SliceF rByte 1 u (fun k => R k /\ k ≠ g) t f.bs /\ n * 3 + 1 + 1 <= cells.length /\ n * 3 + 2 + 1 <= cells.length /\
  (∀ (t' : Sl) (bs' : List UInt8) (H : Nat -> Prop), SliceF rByte 1 u H t' bs' -> (∀ k, H k -> k < u.heap.size -> R k /\ k ≠ g) -> ∀ u', Only [g] u u' -> Blk u' g 38 (splice cells (n * 3 + 1) [t'.v]) -> Own rFq 3 38 B u' R L (l.set n ⟨f.nm, bs', f.sf⟩)) /\
  (∀ (sf' : Nat), ∀ u', Only [g] u u' -> Blk u' g 38 (splice cells (n * 3 + 2) [.int .i64 (sf' : Int)]) -> Own rFq 3 38 B u' R L (l.set n ⟨f.nm, f.bs, sf'⟩)) := by
 obtain ⟨g, cells, cs, h1, h2, h3, h4, h5, ⟨t, rfl, h6⟩, h7⟩ := h.set1 rFq_ok hf
 have q1 := (h7 1 Sl.nil.v ⟨f.nm, [], f.sf⟩ (fun _ => False) (by decide) ⟨Sl.nil, rfl, SliceF.nil _ _ _ _⟩ (fun _ h => h.elim)).1
 have q2 := (h7 2 (.int .i64 (f.sf : Int)) ⟨f.nm, f.bs, f.sf⟩ _ (by decide) ⟨t, rfl, h6⟩ (fun k hk _ => hk)).1
 exact ⟨g, cells, t, h1, h2, h3, h5, h6, q1, q2, fun t' bs' H ht hH u' hO hB => (h7 1 t'.v ⟨f.nm, bs', f.sf⟩ H (by decide) ⟨t', rfl, ht⟩ hH).2 u' hO hB, fun sf' u' hO hB => (h7 2 (.int .i64 (sf' : Int)) ⟨f.nm, f.bs, sf'⟩ _ (by decide) ⟨t, rfl, h6⟩ (fun k hk _ => hk)).2 u' hO hB⟩
theorem rdrop_x (h : RfP w x D L F) (hFh : ∀ k, F k -> k < w.heap.size) (s : List UInt8) (hn : D.fs.length <= 100000) : Calls Try.prog 58 #[.pointer (some ⟨x, 0, none⟩), .string (T s)] w fun e w' => e = .returned (.tuple #[]) /\ (∃ L', RfP w' x (setFs D (dropF s D.fs)) L' (Gr F w w')) /\ OnlyP (fun k => k = x) w w' := by
 refine ret (v40w ⟨x, 0, none⟩ (T s) (fun v w' => v = .tuple #[] /\ (∃ L', RfP w' x (setFs D (dropF s D.fs)) L' (Gr F w w')) /\ OnlyP (fun k => k = x) w w') w ?_)
 unfold v40v
 have xlt := h.lt
 have hs0 := h.sl'
 have h1 := hs0.len
 have h2 := hs0.cap
 have h3 := hs0.big
 have lc : ∀ {u : World}, OnlyP (fun k => w.heap.size <= k) w u -> Cells u ((⟨x, 0, none⟩ : Addr).add 0) [L.v] := fun hO => (h.keep (hO.keeps (G := F) fun k hk hh => by have := hFh k hk; omega)).lc
 have sl : ∀ {u : World}, OnlyP (fun k => w.heap.size <= k) w u -> SliceF rFq 3 u (fun k => F k /\ k ≠ x) L D.fs := fun hO => SliceF.onlyP rFq_ok (by decide) hs0 hO fun k hk _ hh => by have := hFh k hk.1; omega
 have hR : ∀ k, F k /\ k ≠ x -> ((F k /\ k ≠ x) ∨ w.heap.size <= k) /\ k < w.heap.size := fun k hk => ⟨.inl hk, hFh k hk.1⟩
 refine ⟨fun nv l i u => ∃ n : Nat, i = (n : Int) /\ nv + n = D.fs.length /\ OnlyP (fun k => w.heap.size <= k) w u /\ Own rFq 3 38 w.heap.size u (fun k => (F k /\ k ≠ x) ∨ w.heap.size <= k) l (dropF s (D.fs.take n)), D.fs.length, ⟨0, rfl, rfl, OnlyP.refl _ _, Own.nil _ _ _ _ _ _⟩, ?_⟩
 rintro nv l0 _ w1 ⟨n, rfl, hnv, hO1, hown⟩
 have z1 := hO1.size
 refine ⟨L, lc hO1, fun hlt => ?_, fun hge => ?_⟩
 · have hlt : (n : Int) < (L.n : Int) := of_decide_eq_true hlt
   have hnl : n < D.fs.length := by omega
   obtain ⟨a, ha⟩ : ∃ a, D.fs[n]? = some a := ⟨_, List.getElem?_eq_getElem hnl⟩
   have htk : D.fs.take (n + 1) = D.fs.take n ++ [a] := by rw [List.take_add_one, ha]; rfl
   obtain ⟨ad, ta, a1, a2, a3, a4⟩ := fq_all (sl hO1) ha
   have hlen : (dropF s (D.fs.take n)).length <= 1000000 := by
    have := (dropF_sub s (D.fs.take n)).length_le
    rw [List.length_take] at this
    omega
   refine ⟨fun l u => OnlyP (fun k => w.heap.size <= k) w u /\ Own rFq 3 38 w.heap.size u (fun k => (F k /\ k ≠ x) ∨ w.heap.size <= k) l (dropF s (D.fs.take (n + 1))), fun l u hJ => ⟨nv - 1, by omega, n + 1, by rw [wr' (by omega) (by omega)]; rfl, by omega, hJ.1, hJ.2⟩, L, lc hO1, ad, a1, _, a2, fun hc => ?_, fun hc => ?_⟩
   · rw [eq_T] at hc
     have hc : ¬ a.nm = s := by simpa using hc
     obtain ⟨l7, w6, k1, k2, l8, w7, k3, k4, k5⟩ := app_fq hown z1 a4 (fun k hk _ => hR k hk) (fun k hk => .inr hk) hlen
     refine ⟨L, lc hO1, ad, a1, _, _, _, a3, l7, w6, k1, l8, w7, k3, (hO1.tr0 k2).trans k4 fun k hk => .inl hk, ?_⟩
     rw [htk, dropF_snoc, if_neg hc]
     exact k5
   · rw [eq_T] at hc
     have hc : a.nm = s := by simpa using hc
     refine ⟨hO1, ?_⟩
     rw [htk, dropF_snoc, if_pos hc, List.append_nil]
     exact hown
 · have hge : ¬ (n : Int) < (L.n : Int) := of_decide_eq_false hge
   have hn2 : n = D.fs.length := by omega
   subst hn2
   rw [List.take_length] at hown
   have h12 := h.keep (hO1.keeps (G := F) fun k hk hh => by have := hFh k hk; omega)
   obtain ⟨p, q, r, hb, hp⟩ := h12.blk
   refine ⟨x, 0, _, _, rfl, hb, by simp, fun w13 hO13 hB13 => ⟨rfl, ⟨l0, ?_⟩, ?_⟩⟩
   · exact h12.hang (G := fun k => F k ∨ (w.heap.size <= k /\ k < w13.heap.size)) hO13 (L' := l0) (l := dropF s D.fs) hB13 hp (((hown.inHeap rFq_ok).mono rFq_ok fun k hk => by
      have := hO13.size
      rcases hk.1 with hh | hh
      · exact ⟨.inl hh.1, hh.2⟩
      · exact ⟨.inr ⟨by omega, by omega⟩, by omega⟩).low (Nat.zero_le _)) (fun g hg => by
      have := hown.blk hg
      have := hO13.size
      dsimp only at *
      exact ⟨.inr ⟨by omega, by omega⟩, by omega⟩) (.inl h.hx) (h.inv.drop s)
   · exact (hO1.only fun k hk => hk).trP (hO13.p fun b hb => .inl (by simp at hb; exact hb))
theorem rdrop_c0 (h : RfP w x D L F) (hFh : ∀ k, F k -> k < w.heap.size) (s : List UInt8) (hn : D.fs.length <= 100000) : Calls Try.prog 58 #[.pointer (some ⟨x, 0, none⟩), .string (T s)] w fun e w' => e = .returned (.tuple #[]) /\ AftR x (setFs D (dropF s D.fs)) F w w' :=
 (rdrop_x h hFh s hn).mono fun _ _ hh => ⟨hh.1, hh.2.1, hh.2.2.mono fun k _ hk => by rw [hk]; exact h.hx⟩
theorem part_of (h : RfP w x D L F) : ∃ armed acts part, Blk w x 74 (rcs L D.room D.off armed acts part) /\ ∀ p, (cutP D).1 = some p -> part = p := by
 obtain ⟨p, q, r, hb, hp⟩ := h.blk
 refine ⟨p, q, r, hb, fun y hy => ?_⟩
 unfold cutP at hy
 unfold Pw at hp
 split at hp
 · rename_i hn; rw [hn] at hy; cases hy
 · rename_i a' q' hn
   rw [hn] at hy
   cases a' with
   | zero =>
    injection hy with hy
    rw [<- hy]; exact hp.2.2.1
   | succ k => cases hy
theorem mod2 (p : Int) : ((modI p 2 : Int) == 1) = decide (p.tmod 2 ≠ 0) := by
 have e := modI_eq p (k := 2) (by decide)
 have h1 := Int.lt_tmod_of_pos p (b := 2) (by decide)
 have h2 := Int.tmod_lt_of_pos p (b := 2) (by decide)
 rw [Bool.eq_iff_iff, beq_iff_eq, decide_eq_true_eq, e]
 have : ∀ r : Int, -2 < r -> r < 2 -> ((r + 2).tmod 2 = 1 ↔ r ≠ 0) := fun r h1 h2 => by
  have : r = -1 ∨ r = 0 ∨ r = 1 := by omega
  rcases this with rfl | rfl | rfl <;> decide
 exact this _ h1 h2
theorem findE_at {i : Int} (ho : D.off = false) (h : (i = -1 /\ lookF D.fs s = none) ∨ ∃ (n : Nat) (f : Fl), i = (n : Int) /\ D.fs[n]? = some f /\ lookF D.fs s = some f) : (i < 0 -> findE D s = 51) /\ (¬ i < 0 -> findE D s = 0 /\ ∃ (n : Nat) (f : Fl), i = (n : Int) /\ D.fs[n]? = some f /\ lookF D.fs s = some f) := by
 refine ⟨fun hi => ?_, fun hi => ?_⟩
 · rcases h with ⟨_, hl⟩ | ⟨n, f, rfl, _⟩
   · unfold findE; rw [ho, if_neg (by simp), if_pos hl]
   · omega
 · rcases h with ⟨rfl, _⟩ | ⟨n, f, rfl, h1, h2⟩
   · omega
   · exact ⟨by unfold findE; rw [ho, if_neg (by simp), if_neg (by rw [h2]; simp)], n, f, rfl, h1, h2⟩
theorem findE_off (ho : D.off = true) : findE D s = 50 := by unfold findE; rw [ho]; rfl
theorem rsync_c (h : RfP w x D L F) (s : List UInt8) : Calls Try.prog 40 #[.pointer (some ⟨x, 0, none⟩), .string (T s)] w fun e w' => e = .returned (.int .i64 (syncD D s).1) /\ AftR x (syncD D s).2 F w w' := by
 refine ret (v38w ⟨x, 0, none⟩ (T s) (fun v w' => v = .int .i64 (syncD D s).1 /\ AftR x (syncD D s).2 F w w') w ?_)
 unfold v38v
 refine (rat_c h s).mono ?_
 rintro _ w0 ⟨⟨i, rfl, hat⟩, hu⟩
 obtain rfl : w = w0 := hu.symm
 refine ⟨i, rfl, _, h.offc, fun ho => ?_, fun ho => ⟨fun hi => ?_, fun hi => ?_⟩⟩
 · have e : syncD D s = (50, D) := by unfold syncD; rw [findE_off ho, if_pos (by decide)]
   rw [e]
   exact ⟨rfl, AftR.same h (Only.refl _ _)⟩
 · have e : syncD D s = (51, D) := by unfold syncD; rw [(findE_at ho hat).1 (of_decide_eq_true hi), if_pos (by decide)]
   rw [e]
   exact ⟨rfl, AftR.same h (Only.refl _ _)⟩
 · obtain ⟨hf0, n, f, rfl, hfn, hlk⟩ := (findE_at ho hat).2 (of_decide_eq_false hi)
   have eg := getF_some hlk
   obtain ⟨e1, e2⟩ := cutP_fs D
   have e : syncD D s = (codeP D, if (cutP D).1.isSome then (cutP D).2 else setFs (cutP D).2 (putF { f with sf := f.bs.length } (cutP D).2.fs)) := by
    unfold syncD codeP
    rw [if_neg (by simpa using hf0), eg]
    rcases cutP D with ⟨g, E⟩
    cases g <;> rfl
   rw [e]
   unfold codeP
   refine (rgoes_c h).mono ?_
   rintro _ w1 ⟨rfl, h1, hO1⟩
   obtain ⟨E, hE⟩ : ∃ E, (cutP D).2 = E := ⟨_, rfl⟩
   rw [hE] at h1 e1 e2
   rw [hE]
   refine ⟨_, rfl, fun u => AftR x (if (cutP D).1.isSome then E else setFs E (putF { f with sf := f.bs.length } E.fs)) F w u, fun w2 hJ => (rend_c _).mono ?_, fun hb w4 hO4 => ?_, fun hb => ?_⟩
   · rintro _ w3 ⟨rfl, hu⟩
     obtain rfl : w2 = w3 := hu.symm
     exact ⟨_, rfl, rfl, hJ⟩
   · have hb : (cutP D).1.isSome = false := by simpa using hb
     have h4 := h1.only0 hO4
     have hfE : E.fs[n]? = some f := by rw [e1]; exact hfn
     obtain ⟨g, cells, t, g1, g2, g3, g4, g5, g6, g7, g8, g9⟩ := fq_set h4.row hfE
     refine ⟨L, h4.lc, L, h4.lc, _, g2, t, cells_nth g4 1 rfl, _, g2, g, n * 3 + 2, cells, _, rfl, g3, by omega, fun w5 hO5 hB5 => ?_⟩
     rw [g5.len] at hB5
     have hg := h4.out g g1
     have hset := putF_set (f := f) (y := { f with sf := f.bs.length }) rfl h4.inv.rise hfE
     have := h4.ofRow (hO5.p fun b hb => .inl (by simp at hb; rw [hb]; exact hg.2)) (l := putF { f with sf := f.bs.length } E.fs) (by rw [hset]; exact g9 f.bs.length w5 hO5 hB5)
      (h4.inv.put (Nat.le_refl _) (h4.inv.nam f (List.mem_of_getElem? hfE)) (Nat.le_trans (sum_same (s := f.nm) h4.inv.rise (h4.inv.rise.lookF (List.mem_of_getElem? hfE)) rfl (Nat.le_refl _)) h4.inv.sum))
     rw [hb]
     exact AftR.of this (((oneF h hO1).tr0 hO4).trans (hO5.p (F := F) fun b hb => .inl (by simp at hb; rw [hb]; exact hg.1)) fun k hk => .inl hk)
   · have hb : (cutP D).1.isSome = true := by simpa using hb
     rw [hb]
     exact AftR.of h1 (oneF h hO1)
theorem rread_c (h : RfP w x D L F) (s : List UInt8) (hm : sumF D.fs <= 140737488355328) : Calls Try.prog 45 #[.pointer (some ⟨x, 0, none⟩), .string (T s)] w fun e w' => (∃ t : Sl, e = .returned (.tuple #[t.v, .int .i64 (findE D s)]) /\ Own rByte 1 5 w.heap.size w' (fun _ => False) t (readD D s)) /\ Only [] w w' := by
 refine (v35w ⟨x, 0, none⟩ (T s) (fun v w' => (∃ t : Sl, v = .tuple #[t.v, .int .i64 (findE D s)] /\ Own rByte 1 5 w.heap.size w' (fun _ => False) t (readD D s)) /\ Only [] w w') w ?_).mono (by
  rintro _ w' ⟨v, rfl, ⟨t, rfl, h⟩, h'⟩; exact ⟨⟨t, rfl, h⟩, h'⟩)
 unfold v35v
 refine (rat_c h s).mono ?_
 rintro _ w0 ⟨⟨i, rfl, hat⟩, hu⟩
 obtain rfl : w = w0 := hu.symm
 refine ⟨i, rfl, _, h.offc, fun ho => ?_, fun ho => ⟨fun hi => ?_, fun hi => ?_⟩⟩
 · have e := findE_off (s := s) ho
   have e2 : readD D s = [] := by unfold readD; rw [e, if_pos (by decide)]
   rw [e, e2]
   exact ⟨⟨Sl.nil, rfl, Own.nil _ _ _ _ _ _⟩, Only.refl _ _⟩
 · have e := (findE_at ho hat).1 (of_decide_eq_true hi)
   have e2 : readD D s = [] := by unfold readD; rw [e, if_pos (by decide)]
   rw [e, e2]
   exact ⟨⟨Sl.nil, rfl, Own.nil _ _ _ _ _ _⟩, Only.refl _ _⟩
 · obtain ⟨hf0, n, f, rfl, hfn, hlk⟩ := (findE_at ho hat).2 (of_decide_eq_false hi)
   have e2 : readD D s = f.bs := by unfold readD; rw [hf0, if_neg (by simp), getF_some hlk]
   rw [hf0, e2]
   have hle := sumF_mem (List.mem_of_getElem? hfn)
   obtain ⟨ad, t, a1, a2, a3, a4, a5⟩ := fq_at h.sl hfn
   obtain ⟨x1, w1, k1, x2, w2, k2, k3, k4, k5⟩ := clone_own (P := Try.prog) (t := 33) (ty := 33) (e := 5) (i := Try.t5) (bytes := 1) (size := 1) (r := rByte) (by kernel_rfl) (by kernel_rfl) rfl rfl rfl rfl (by decide) rByte_ok a5 (by omega) (by decide)
   have o1 : Only [] w w1 := by
    have := run_build0 (P := Try.prog) (t := 33) (e := 5) (i := Try.t5) w (by kernel_rfl) (by kernel_rfl)
    rw [this] at k1
    injection k1 with _ k1
    rw [<- k1]
    exact Only.alloc _ _
   refine ⟨x1, w1, k1, L, (h.only0 o1).lc, ad, a1, t, cells_only a3 o1, x2, w2, k2, ⟨x2, rfl, ?_⟩, k4⟩
   rcases k3 with ⟨e1, e2⟩ | ⟨g, css, tail, e1, e2, e3, e4, e5, e6, e7, e8⟩
   · exact .inl ⟨e1, e2⟩
   · exact .inr ⟨g, css, tail, e1, e2, e3, e4, e5, e6, e7, All2.imp (fun _ _ h => ⟨h.1, h.2⟩) e8⟩
end
section
variable {w w' u u' : World} {x : Nat} {D D' : Dk} {L : Sl} {F G H R : Nat -> Prop} {s a b : List UInt8}
theorem wholeR (h : RfP w x D L F) (op : List Fl -> List Fl) {R : Value -> World -> Prop} {act : (World -> Prop) -> World -> Prop} (hact : ∀ u, goesP D = true -> RfP u x (cutP D).2 L F -> Only [x] w u -> act (fun u' => AftR x (wholeD D op).2 F w u') u) (hR : ∀ u, AftR x (wholeD D op).2 F w u -> R (.int .i64 (wholeD D op).1) u) :
  ∃ i1 : Int, Cells w ((⟨x, 0, none⟩ : Addr).add 5) [.int .i64 i1] /\ Calls Try.prog 53 #[.pointer (some ⟨x, 0, none⟩)] w fun e1 w1 => ∃ b1 : Bool, e1 = (.returned (.bool b1)) /\
   ∃ J0 : World -> Prop, (∀ w2 : World, J0 w2 -> Calls Try.prog 57 #[.bool b1] w2 fun e2 w3 => ∃ i2 : Int, e2 = (.returned (.int .i64 i2)) /\ R (.int .i64 i2) w3) /\
   ∃ J1 : Bool -> World -> Prop, (∀ b2 : Bool, ∀ w4 : World, J1 b2 w4 -> (b2 = true -> act J0 w4) /\ (b2 = false -> J0 w4)) /\ ((!b1) = true -> J1 true w1) /\
   ((!b1) = false -> Calls Try.prog 54 #[.int .i64 i1, .int .i64 2] w1 fun e3 w9 => ∃ i4 : Int, e3 = (.returned (.int .i64 i4)) /\ J1 (i4 == 1) w9) := by
 obtain ⟨armed, acts, part, hb, hpart⟩ := part_of h
 refine ⟨part, Blk.at1 hb 5 rfl, (rgoes_c h).mono ?_⟩
 rintro _ w1 ⟨rfl, h1, hO1⟩
 refine ⟨_, rfl, fun u' => AftR x (wholeD D op).2 F w u', fun w2 hJ => (rend_c _).mono ?_, fun b u => RfP u x (cutP D).2 L F /\ Only [x] w u /\ b = goesP D, ?_, fun hg => ⟨h1, hO1, ?_⟩, fun hg => ?_⟩
 · rintro _ w3 ⟨rfl, hu⟩
   obtain rfl : w2 = w3 := hu.symm
   have := hR w2 hJ
   rw [wholeD_eq] at this
   exact ⟨_, rfl, this⟩
 · rintro b2 w4 ⟨h4, hO4, rfl⟩
   refine ⟨fun hg => hact w4 hg h4 hO4, fun hg => ?_⟩
   rw [wholeD_eq, hg]
   exact AftR.of h4 (oneF h hO4)
 · rw [<- goesP_eq, hg]
   rfl
 · have hsome : (cutP D).1.isSome = true := by simpa using hg
   obtain ⟨p, hp⟩ := Option.isSome_iff_exists.1 hsome
   have := hpart p hp
   subst this
   refine (rmod_c part (k := 2) (by decide) (by decide)).mono ?_
   rintro _ w9 ⟨rfl, hu⟩
   obtain rfl : w1 = w9 := hu.symm
   refine ⟨_, rfl, h1, hO1, ?_⟩
   rw [mod2, <- goesP_eq, hsome, hp]
   show decide (part.tmod 2 ≠ 0) = (false || (part.tmod 2 != 0))
   rw [Bool.false_or, Bool.eq_iff_iff]
   simp
theorem rremove_c (h : RfP w x D L F) (s : List UInt8) (hn : D.fs.length <= 100000) : Calls Try.prog 43 #[.pointer (some ⟨x, 0, none⟩), .string (T s)] w fun e w' => e = .returned (.int .i64 (remD D s).1) /\ AftR x (remD D s).2 F w w' := by
 refine ret (v36w ⟨x, 0, none⟩ (T s) (fun v w' => v = .int .i64 (remD D s).1 /\ AftR x (remD D s).2 F w w') w ?_)
 unfold v36v
 refine (rat_c h s).mono ?_
 rintro _ w0 ⟨⟨i, rfl, hat⟩, hu⟩
 obtain rfl : w = w0 := hu.symm
 refine ⟨i, rfl, _, h.offc, fun ho => ?_, fun ho => ⟨fun hi => ?_, fun hi => ?_⟩⟩
 · have e : remD D s = (50, D) := by unfold remD; rw [findE_off ho, if_pos (by decide)]
   rw [e]
   exact ⟨rfl, AftR.same h (Only.refl _ _)⟩
 · have e : remD D s = (51, D) := by unfold remD; rw [(findE_at ho hat).1 (of_decide_eq_true hi), if_pos (by decide)]
   rw [e]
   exact ⟨rfl, AftR.same h (Only.refl _ _)⟩
 · obtain ⟨hf0, n, f, rfl, hfn, hlk⟩ := (findE_at ho hat).2 (of_decide_eq_false hi)
   have e : remD D s = wholeD D fun l => dropF s l := by unfold remD; rw [if_neg (by simpa using hf0)]
   rw [e]
   refine wholeR (R := fun v w' => v = .int .i64 (wholeD D fun l => dropF s l).1 /\ AftR x (wholeD D fun l => dropF s l).2 F w w') h (fun l => dropF s l) ?_ (fun u hu => ⟨rfl, hu⟩)
   intro u hg h4 hO4
   obtain ⟨e1, e2⟩ := cutP_fs D
   refine (rdrop_c0 h4.heap (fun k hk => hk.2) s (by rw [e1]; exact hn)).mono ?_
   rintro _ w5 ⟨rfl, h5⟩
   refine ⟨rfl, ?_⟩
   rw [wholeD_eq, if_pos hg]
   exact AftR.trans (oneF h hO4) (h5.mono fun k hk => .inl hk.1)
theorem rcut_c (h : RfP w x D L F) (s : List UInt8) {n : Int} (hi : InI n) : Calls Try.prog 41 #[.pointer (some ⟨x, 0, none⟩), .string (T s), .int .i64 n] w fun e w' => e = .returned (.int .i64 (cutD D s n).1) /\ AftR x (cutD D s n).2 F w w' := by
 refine ret (v33w ⟨x, 0, none⟩ (T s) n (fun v w' => v = .int .i64 (cutD D s n).1 /\ AftR x (cutD D s n).2 F w w') w ?_)
 unfold v33v
 refine (rat_c h s).mono ?_
 rintro _ w0 ⟨⟨i, rfl, hat⟩, hu⟩
 obtain rfl : w = w0 := hu.symm
 refine ⟨i, rfl, _, h.offc, fun ho => ?_, fun ho => ⟨fun hi => ?_, fun hi => ?_⟩⟩
 · have e : cutD D s n = (50, D) := by unfold cutD; rw [findE_off ho, if_pos (by decide)]
   rw [e]
   exact ⟨rfl, AftR.same h (Only.refl _ _)⟩
 · have e : cutD D s n = (51, D) := by unfold cutD; rw [(findE_at ho hat).1 (of_decide_eq_true hi), if_pos (by decide)]
   rw [e]
   exact ⟨rfl, AftR.same h (Only.refl _ _)⟩
 · obtain ⟨hf0, m, f, rfl, hfn, hlk⟩ := (findE_at ho hat).2 (of_decide_eq_false hi)
   have eg := getF_some hlk
   obtain ⟨ad, t, a1, a2, a3, a4, a5⟩ := fq_at h.sl hfn
   have hal := a5.len
   refine ⟨L, fun _ => h.lc, ad, fun _ => a1, t, fun _ => a3, fun hb => ?_, fun hb => ?_⟩
   · simp only [Bool.or_eq_true, decide_eq_true_eq] at hb
     have e : cutD D s n = (1, D) := by unfold cutD; rw [if_neg (by simpa using hf0), if_pos (by rw [eg]; omega)]
     rw [e]
     exact ⟨rfl, AftR.same h (Only.refl _ _)⟩
   · simp only [Bool.or_eq_false_iff, decide_eq_false_iff_not] at hb
     obtain ⟨k, rfl⟩ : ∃ k : Nat, n = (k : Int) := ⟨n.toNat, by omega⟩
     have e : cutD D s k = wholeD D fun l => putF ⟨f.nm, f.bs.take k, min k f.sf⟩ l := by
      unfold cutD
      rw [if_neg (by simpa using hf0), if_neg (by rw [eg]; omega), eg, Int.toNat_natCast, (lookF_mem hlk).2]
     rw [e]
     refine wholeR (R := fun v w' => v = .int .i64 (wholeD D fun l => putF ⟨f.nm, f.bs.take k, min k f.sf⟩ l).1 /\ AftR x (wholeD D fun l => putF ⟨f.nm, f.bs.take k, min k f.sf⟩ l).2 F w w') h (fun l => putF ⟨f.nm, f.bs.take k, min k f.sf⟩ l) ?_ (fun u hu => ⟨rfl, hu⟩)
     intro u hg h4 hO4 w5 hO5
     obtain ⟨E, hE⟩ : ∃ E, (cutP D).2 = E := ⟨_, rfl⟩
     obtain ⟨e1, e2⟩ := cutP_fs D
     rw [wholeD_eq, if_pos hg]
     rw [hE] at h4 e1 e2 ⊢
     have h5 := h4.only0 hO5
     have hfE : E.fs[m]? = some f := by rw [e1]; exact hfn
     have hmE := List.mem_of_getElem? hfE
     obtain ⟨g, cells, t5, g1, g2, g3, g4, g5, g6, g7, g8, g9⟩ := fq_set h5.row hfE
     have hg' := h5.out g g1
     have c5 := g5.cap
     have l5 := g5.len
     have c6 := g5.big
     have hkl : k <= f.bs.length := by omega
     have hcut := g5.cut (lo := 0) (hi := k) (m := t5.c) (by omega) (by omega) (by omega) (by omega)
     rw [Nat.sub_zero, List.drop_zero] at hcut
     refine ⟨L, h5.lc, L, h5.lc, _, g2, t5, cells_nth g4 1 rfl, k, ⟨rfl, by omega⟩, _, g2, g, m * 3 + 1, cells, _, rfl, g3, by omega, fun w6 hO6 hB6 w7 hO7 => ?_⟩
     have r6 := (g8 _ (f.bs.take k) _ hcut (fun k hk _ => hk) w6 hO6 hB6).keep (w' := w7) rFq_ok fun b _ hlt => hO7.block b hlt (by simp)
     have hlt : m < E.fs.length := (List.getElem?_eq_some_iff.1 hfE).1
     obtain ⟨g', cells', t7, q1, q2, q3, q4, q5, q6, q7, q8, q9⟩ := fq_set (n := m) r6 (f := ⟨f.nm, f.bs.take k, f.sf⟩) (by rw [List.getElem?_set_self hlt])
     have o57 : OnlyP (fun k => k ≠ x) w5 w7 := (hO6.p fun b hb => .inl (by simp at hb; rw [hb]; exact hg'.2)).tr0 hO7
     have l7 : Cells w7 ((⟨x, 0, none⟩ : Addr).add 0) [L.v] := by
      obtain ⟨_, _, _, hb5, _⟩ := h5.blk
      exact Blk.at1 (o57.blk hb5 (by simp)) 0 rfl
     have egg : g' = g := by
      rw [g1] at q1
      injection q1 with q1
      injection q1 with q1
      exact q1.symm
     subst egg
     refine ⟨L, l7, L, l7, _, q2, _, cells_nth q4 2 rfl, _, q2, g', m * 3 + 2, cells', _, rfl, q3, by omega, fun w8 hO8 hB8 => ?_⟩
     have em : (if (f.sf : Int) < (k : Int) then (f.sf : Int) else (k : Int)) = ((min k f.sf : Nat) : Int) := by split <;> omega
     have hB8 : Blk w8 g' 38 (splice cells' (m * 3 + 2) [.int .i64 (if (f.sf : Int) < (k : Int) then (f.sf : Int) else (k : Int))]) := hB8
     rw [em] at hB8
     have r8 := q9 _ w8 hO8 hB8
     rw [List.set_set] at r8
     have hset := putF_set (f := f) (y := ⟨f.nm, f.bs.take k, min k f.sf⟩) rfl h5.inv.rise hfE
     rw [<- hset] at r8
     have hsum := sum_same (s := f.nm) h5.inv.rise (h5.inv.rise.lookF hmE) (f' := ⟨f.nm, f.bs.take k, min k f.sf⟩) rfl (by dsimp only; rw [List.length_take]; omega)
     have := h5.ofRow (o57.trans (hO8.p fun b hb => .inl (by simp at hb; rw [hb]; exact hg'.2)) fun k hk => .inl hk) r8 (h5.inv.put (by dsimp only; rw [List.length_take]; omega) (h5.inv.nam f hmE) (Nat.le_trans hsum h5.inv.sum))
     refine AftR.of this ?_
     refine ((oneF h hO4).tr0 hO5).trans (((hO6.p (F := F) fun b hb => .inl (by simp at hb; rw [hb]; exact hg'.1)).tr0 hO7).trans (hO8.p (F := F) fun b hb => .inl (by simp at hb; rw [hb]; exact hg'.1)) fun k hk => .inl hk) fun k hk => .inl hk
theorem rrename_c (h : RfP w x D L F) (a b : List UInt8) (hn : D.fs.length <= 100000) : Calls Try.prog 42 #[.pointer (some ⟨x, 0, none⟩), .string (T a), .string (T b)] w fun e w' => e = .returned (.int .i64 (renD D a b).1) /\ AftR x (renD D a b).2 F w w' := by
 refine ret (v37w ⟨x, 0, none⟩ (T a) (T b) (fun v w' => v = .int .i64 (renD D a b).1 /\ AftR x (renD D a b).2 F w w') w ?_)
 unfold v37v
 refine (rat_c h a).mono ?_
 rintro _ w0 ⟨⟨i, rfl, hat⟩, hu⟩
 obtain rfl : w = w0 := hu.symm
 refine ⟨i, rfl, _, h.offc, fun ho => ?_, fun ho => ⟨fun hi => ?_, fun hi => ?_⟩⟩
 · have e : renD D a b = (50, D) := by unfold renD; rw [findE_off ho, if_pos (by decide)]
   rw [e]
   exact ⟨rfl, AftR.same h (Only.refl _ _)⟩
 · have e : renD D a b = (51, D) := by unfold renD; rw [(findE_at ho hat).1 (of_decide_eq_true hi), if_pos (by decide)]
   rw [e]
   exact ⟨rfl, AftR.same h (Only.refl _ _)⟩
 · obtain ⟨hf0, m, f, rfl, hfn, hlk⟩ := (findE_at ho hat).2 (of_decide_eq_false hi)
   have eg := getF_some hlk
   have ec : ((((T b).toList == ((ByteArray.mk #[]).toList)) || (decide (((T b).size : Int) > 32))) || ((T a).toList == (T b).toList)) = (!nameK b || decide (a = b)) := by
    rw [eq_T a b]
    congr 1
    have e1 : ((T b).size : Int) = (b.length : Int) := by rw [T_size]
    have e0 : ((T b).toList == ((ByteArray.mk #[]).toList)) = decide (b = []) := eq_T b []
    rw [e0, e1, nameK]
    by_cases h1 : b = [] <;> by_cases h2 : b.length <= 32 <;> simp [h1, h2] <;> omega
   refine ⟨fun hb => ?_, fun hb => ?_⟩
   · rw [ec] at hb
     simp only [Bool.or_eq_true, Bool.not_eq_true', decide_eq_true_eq] at hb
     have e : renD D a b = (1, D) := by unfold renD; rw [if_neg (by simpa using hf0), if_pos hb]
     rw [e]
     exact ⟨rfl, AftR.same h (Only.refl _ _)⟩
   · rw [ec] at hb
     simp only [Bool.or_eq_false_iff, Bool.not_eq_false', decide_eq_false_iff_not] at hb
     have e : renD D a b = wholeD D fun l => putF { f with nm := b } (dropF a l) := by unfold renD; rw [if_neg (by simpa using hf0), if_neg (by simp [hb.1, hb.2]), eg]
     rw [e]
     refine wholeR (R := fun v w' => v = .int .i64 (wholeD D fun l => putF { f with nm := b } (dropF a l)).1 /\ AftR x (wholeD D fun l => putF { f with nm := b } (dropF a l)).2 F w w') h (fun l => putF { f with nm := b } (dropF a l)) ?_ (fun u hu => ⟨rfl, hu⟩)
     intro w4 hg h4 hO4
     obtain ⟨E, hE⟩ : ∃ E, (cutP D).2 = E := ⟨_, rfl⟩
     obtain ⟨e1, e2⟩ := cutP_fs D
     rw [wholeD_eq, if_pos hg]
     rw [hE] at h4 e1 e2 ⊢
     have hfE : E.fs[m]? = some f := by rw [e1]; exact hfn
     have hlE : lookF E.fs a = some f := by rw [e1]; exact hlk
     have h4' := h4.heap
     have x4 := h4.lt
     obtain ⟨ad, t, a1, a2, a3, a4⟩ := fq_all h4'.sl' hfE
     refine ⟨L, h4.lc, ad, a1, T f.nm, t, (f.sf : Int), a3, fun k0 w5 hk0 hk0' hO5 => ?_⟩
     have z5 := hO5.size
     refine (rdrop_x (h4'.only0 hO5) (fun k hk => by have := hk.2; omega) a (by rw [e1]; exact hn)).mono ?_
     rintro _ w6 ⟨rfl, ⟨L6, h6⟩, hO6⟩
     have z6 := hO6.size
     have t5 := SliceF.only rByte_ok (by decide) a4 hO5 (by simp)
     have t6 := SliceF.onlyP rByte_ok (by decide) t5 hO6 fun k hk _ => hk.2
     have hsum : sumF (putF { f with nm := b } (dropF a E.fs)) <= E.room := by
      have s1 := putF_sum { f with nm := b } (dropF_rise a h4.inv.rise)
      have s2 := dropF_sum h4.inv.rise hlE
      have s3 := h4.inv.sum
      dsimp only at s1
      omega
     refine ⟨rfl, hO6.same (by simp; omega), ?_⟩
     refine (rput_c0 h6 (fun k hk => by
      rcases hk with hk | hk
      · have := hk.2; omega
      · exact hk.2) (f := { f with nm := b }) t6 (fun k hk => ⟨.inl hk.1, hk.2⟩) ((h4.inv.drop a).put (h4.inv.safe f (lookF_mem hlE).1) hb.1 hsum) (by
        have := (dropF_sub a E.fs).length_le
        show (dropF a E.fs).length <= _
        rw [e1] at this ⊢
        omega)).mono ?_
     rintro _ w7 ⟨rfl, h7, hO7⟩
     refine ⟨rfl, hO7.same (by
      simp only [List.mem_singleton, forall_eq]
      refine ⟨by omega, fun hk => ?_⟩
      rcases hk with hk | hk
      · have := hk.2; omega
      · omega), ?_⟩
     have r7 : AftR x (setFs (setFs E (dropF a E.fs)) (putF { f with nm := b } (dropF a E.fs))) (Gr (fun k => F k /\ k < w4.heap.size) w5 w6) w6 w7 := ⟨h7, hO7⟩
     have o46 : OnlyP F w4 w6 := hO5.p0.trans (hO6.mono (G := F) fun k _ hk => by rw [hk]; exact h4.hx) fun k hk => .inl hk
     refine AftR.trans (oneF h hO4) (AftR.mono (F := F) (AftR.trans o46 (r7.mono fun k hk => ?_)) fun k hk => .inl hk)
     rcases hk with hk | hk
     · exact .inl hk.1
     · exact .inr ⟨by omega, hk.2⟩
end
theorem bootL_len : ∀ (ks : List Int) (l : List Fl), (bootL ks l).length = l.length
 | _, [] => by rw [bootL]
 | ks, _ :: l => by rw [bootL, List.length_cons, List.length_cons, bootL_len ks.tail l]
section
variable {w w' u u' : World} {x : Nat} {D D' : Dk} {L : Sl} {F G H R : Nat -> Prop} {s a b : List UInt8}
theorem byteOwn {B : Nat} {e : TypeId} {t : Sl} {l : List UInt8} (h : Own rByte 1 e B w F t l) : Own rByte 1 e B w (fun _ => False) t l := by
 rcases h with ⟨e1, e2⟩ | ⟨g, css, tail, e1, e2, e3, e4, e5, e6, e7, e8⟩
 · exact .inl ⟨e1, e2⟩
 · exact .inr ⟨g, css, tail, e1, e2, e3, e4, e5, e6, e7, All2.imp (fun _ _ h => ⟨h.1, h.2⟩) e8⟩
theorem rboot_c0 (h : RfP w x D L F) (hFh : ∀ k, F k -> k < w.heap.size) (hm : sumF D.fs <= 140737488355328) {ka : Sl} {keep : List Int} (hk : SliceF rInt 1 w G ka keep) (hG : ∀ k, G k -> k < w.heap.size -> ¬ F k) :
  Calls Try.prog 47 #[.pointer (some ⟨x, 0, none⟩), ka.v] w fun e w' => e = .returned (.tuple #[]) /\ AftR x (bootD D keep) F w w' := by
 refine ret (v32w ⟨x, 0, none⟩ ka (fun v w' => v = .tuple #[] /\ AftR x (bootD D keep) F w w') w ?_)
 unfold v32v
 have hkl := hk.len
 have hkc := hk.cap
 have hkb := hk.big
 have hkh := SliceF.inHeap rInt_ok hk (by decide)
 refine ⟨fun nv i u => ∃ n : Nat, i = (n : Int) /\ nv + n = D.fs.length /\ RfP u x (setFs D (bootL keep (D.fs.take n) ++ D.fs.drop n)) L (fun k => F k ∨ w.heap.size <= k) /\ OnlyP F w u, D.fs.length, ⟨0, rfl, rfl, h.mono fun k _ hk => .inl hk, OnlyP.refl _ _⟩, ?_⟩
 rintro nv _ w0 ⟨n, rfl, hnv, h1, hO1⟩
 have z1 := hO1.size
 have hs1 := h1.sl
 have hln := hs1.len
 have hcn := hs1.cap
 have hbn := hs1.big
 have hll : (bootL keep (D.fs.take n) ++ D.fs.drop n).length = D.fs.length := by rw [List.length_append, bootL_len, List.length_take, List.length_drop]; omega
 have hln : L.n = D.fs.length := by rw [hln]; exact hll
 refine ⟨L, h1.lc, fun hlt => ?_, fun hge => ?_⟩
 · have hlt : (n : Int) < (L.n : Int) := of_decide_eq_true hlt
   have hnl : n < D.fs.length := by omega
   obtain ⟨f, hfn⟩ : ∃ f, D.fs[n]? = some f := ⟨_, List.getElem?_eq_getElem hnl⟩
   have hmem := List.mem_of_getElem? hfn
   have hsf := h.inv.safe f hmem
   have hlen := sumF_mem hmem
   have hdr : D.fs.drop n = f :: D.fs.drop (n + 1) := by
    rw [List.drop_eq_getElem_cons hnl]
    congr 1
    exact (List.getElem?_eq_some_iff.1 hfn).2
   obtain ⟨LL, hL⟩ : ∃ LL, LL = bootL keep (D.fs.take n) ++ D.fs.drop n := ⟨_, rfl⟩
   rw [<- hL] at h1 hs1 hll
   have hrise : Rise LL := h1.inv.rise
   have hf : LL[n]? = some f := by
    rw [hL, List.getElem?_append_right (by rw [bootL_len, List.length_take]; omega), bootL_len, List.length_take, Nat.min_eq_left (by omega), Nat.sub_self, hdr]
    rfl
   obtain ⟨bf1, bf2, bf3, bf4, bf5⟩ := bootF_le (ks := keep.drop n) hsf
   obtain ⟨k, hkk⟩ : ∃ k, k = (bootF (keep.drop n) f).sf := ⟨_, rfl⟩
   have hkl2 : k <= f.bs.length := by omega
   have hput : LL.set n (bootF (keep.drop n) f) = bootL keep (D.fs.take (n + 1)) ++ D.fs.drop (n + 1) := by
    rw [<- putF_set bf4 hrise hf, hL, hdr, putF_mid bf4 (by rw [<- hdr, <- hL]; exact hrise), bootL_snoc keep hfn, List.append_assoc]
    rfl
   obtain ⟨ad, t, a1, a2, a3, a4, a5⟩ := fq_at hs1 (i := n) hf
   have hal := a5.len
   refine ⟨L, h1.lc, ad, a1, t, a3, L, h1.lc, ad, a1, (f.sf : Int), a4, fun w1 hOw1 => ?_⟩
   have zw1 := hOw1.size
   refine ⟨fun m u => m = ((k - f.sf : Nat) : Int) /\ u = w1, ?_, fun hc => ?_, fun hc => ?_⟩
   · rintro _ w2 ⟨rfl, hu⟩ w3 hO3
     rw [hu] at hO3
     have h3 := (h1.only0 hOw1).only0 hO3
     obtain ⟨g, cells, t3, g1, g2, g3, g4, g5, g6, g7, g8, g9⟩ := fq_set h3.row (n := n) hf
     have hg := h3.out g g1
     have ew : IntKind.wrap .i64 ((f.sf : Int) + ((k - f.sf : Nat) : Int)) = (k : Int) := by rw [wr' (by omega) (by omega)]; omega
     have z3 := hO3.size
     refine ⟨L, h3.lc, L, h3.lc, _, g2, (f.sf : Int), cells_nth g4 2 rfl, _, g2, g, n * 3 + 2, cells, _, rfl, g3, by omega, fun w4 hO4 hB4 w5 hO5 => ?_⟩
     rw [ew] at hB4
     have z4 := hO4.size
     have z5 := hO5.size
     have o35 : Only [g] w3 w5 := hO4.tr0 hO5
     have r5 := (g9 k w4 hO4 hB4).keep (w' := w5) rFq_ok fun b _ hlt => hO5.block b hlt (by simp)
     have hlt3 : n < LL.length := (List.getElem?_eq_some_iff.1 hf).1
     have hf5 : (LL.set n ⟨f.nm, f.bs, k⟩)[n]? = some ⟨f.nm, f.bs, k⟩ := List.getElem?_set_self hlt3
     obtain ⟨g', cells', t5, q1, q2, q3, q4, q5, q6, q7, q8, q9⟩ := fq_set (n := n) r5 hf5
     have egg : g' = g := by
      rw [g1] at q1
      injection q1 with q1
      injection q1 with q1
      exact q1.symm
     subst egg
     have o35' : OnlyP (fun k => k ≠ x) w3 w5 := o35.p fun b hb => .inl (by simp at hb; rw [hb]; exact hg.2)
     obtain ⟨p, q, r, hb3, hp3⟩ := h3.blk
     have hb5 := o35'.blk hb3 (by simp)
     have lc5 : Cells w5 ((⟨x, 0, none⟩ : Addr).add 0) [L.v] := Blk.at1 hb5 0 rfl
     have hl5 := q5.len
     have hc5 := q5.cap
     have hb5' := q5.big
     have x5 := hb5.lt
     have g5lt := q3.lt
     have hcut := q5.cut (lo := 0) (hi := k) (m := t5.c) (by omega) (by dsimp only at hl5; omega) (by dsimp only at hl5; omega) (by omega)
     rw [Nat.sub_zero, List.drop_zero] at hcut
     obtain ⟨x1, w6, k1, x2, w7, k2, k3, k4, k5⟩ := clone_own (P := Try.prog) (t := 33) (ty := 33) (e := 5) (i := Try.t5) (bytes := 1) (size := 1) (r := rByte) (by kernel_rfl) (by kernel_rfl) rfl rfl rfl rfl (by decide) rByte_ok hcut (by rw [List.length_take]; dsimp only; omega) (by decide)
     have o6 : Only [] w5 w6 := by
      have := run_build0 (P := Try.prog) (t := 33) (e := 5) (i := Try.t5) w5 (by kernel_rfl) (by kernel_rfl)
      rw [this] at k1
      injection k1 with _ k1
      rw [<- k1]
      exact Only.alloc _ _
     have z7 := k4.size
     have r7 := r5.keep (w' := w7) rFq_ok fun b _ hlt => k4.block b hlt (by simp)
     obtain ⟨g7, cells7, t7, y1, y2, y3, y4, y5, y6, y7, y8, y9⟩ := fq_set (n := n) r7 hf5
     have egg : g7 = g' := by
      rw [q1] at y1
      injection y1 with y1
      injection y1 with y1
      exact y1.symm
     subst egg
     refine ⟨fun b => b < w5.heap.size, x5, L, lc5, x5, L, lc5, _, q2, g5lt, t5, cells_nth q4 1 rfl, x5, L, lc5, _, q2, g5lt, (k : Int), cells_nth q4 2 rfl, k, ⟨rfl, by dsimp only at hl5; omega⟩, x1, w6, k1, fun b hb hlt => o6.block b hlt (by simp), x2, w7, k2, fun b hb _ => (k4.block b hb (by simp)).trans (o6.block b hb (by simp)).symm, _, y2, g7, n * 3 + 1, cells7, _, rfl, y3, by omega, fun w8 hO8 hB8 => ?_⟩
     have r8 := y8 x2 (f.bs.take k) (fun b => w5.heap.size <= b /\ b < w7.heap.size) (by
      have ks := (byteOwn k3).slice rByte_ok
      exact SliceF.mono rByte_ok (SliceF.inHeap rByte_ok ks (by decide)) fun b hb => ⟨hb.1.elim False.elim fun h => h.1, hb.2⟩) (fun b hb hlt => ⟨⟨.inr (by omega), by omega⟩, by omega⟩) w8 hO8 hB8
     rw [List.set_set] at r8
     have ebf : (⟨f.nm, f.bs.take k, k⟩ : Fl) = bootF (keep.drop n) f := by rw [hkk]; rfl
     rw [ebf, show (setFs D LL).fs.set n (bootF (keep.drop n) f) = LL.set n (bootF (keep.drop n) f) from rfl, hput] at r8
     have o38 : OnlyP (fun k => k ≠ x) w3 w8 := (o35'.tr0 k4).trans (hO8.p fun b hb => .inl (by simp at hb; rw [hb]; exact hg.2)) fun k hk => .inl hk
     have hsum : sumF (bootL keep (D.fs.take (n + 1)) ++ D.fs.drop (n + 1)) <= D.room := by
      rw [<- hput, <- putF_set bf4 hrise hf]
      exact Nat.le_trans (sum_same (s := f.nm) (f' := bootF (keep.drop n) f) hrise (hrise.lookF (List.mem_of_getElem? hf)) bf4 bf1) h1.inv.sum
     have hinv : Inv (setFs (setFs D LL) (bootL keep (D.fs.take (n + 1)) ++ D.fs.drop (n + 1))) := by
      rw [<- hput, <- putF_set bf4 hrise hf]
      exact h1.inv.put (f := bootF (keep.drop n) f) (by rw [bf2]; exact Nat.le_refl _) (by rw [bf4]; exact h.inv.nam f hmem) (by show sumF (putF _ LL) <= D.room; rw [putF_set bf4 hrise hf, hput]; exact hsum)
     have h8 := h3.ofRow o38 r8 hinv
     refine ⟨nv - 1, by omega, n + 1, by rw [wr' (by omega) (by omega)]; rfl, by omega, h8, ?_⟩
     have hg0 : F g7 ∨ w0.heap.size <= g7 ∨ w.heap.size <= g7 := by
      rcases hg.1 with h | h
      · exact .inl h
      · exact .inr (.inr h)
     have hgp : ∀ {a c : World}, Only [g7] a c -> w.heap.size <= a.heap.size -> OnlyP (fun k => F k ∨ w.heap.size <= k) a c := fun hO _ => hO.p fun b hb => .inl (by simp at hb; rw [hb]; exact hg.1)
     have o08 : OnlyP (fun k => F k ∨ w.heap.size <= k) w0 w8 := (((((hOw1.p0 (F := fun k => F k ∨ w.heap.size <= k)).tr0 hO3).trans (hgp hO4 (by omega)) fun k hk => .inl hk).tr0 hO5).tr0 k4).trans (hgp hO8 (by omega)) fun k hk => .inl hk
     exact hO1.trans o08 fun k hk => hk
   · have hc : (n : Int) < (ka.n : Int) := of_decide_eq_true hc
     have hk7 := SliceF.only rInt_ok (by decide) (SliceF.onlyP rInt_ok (by decide) hkh hO1 fun k hk _ hf => hG k hk.1 hk.2 hf) hOw1 (by simp)
     obtain ⟨kd, y, cs, c1, c2, c3, c4, c5, c6⟩ := hk7.get (Int.natCast_nonneg n) hc
     obtain ⟨rfl, hxi⟩ := c6
     rw [Int.toNat_natCast] at c2
     have hd : keep.drop n = y :: keep.drop (n + 1) := by
      have hl := (List.getElem?_eq_some_iff.1 c2).1
      rw [List.drop_eq_getElem_cons hl]
      congr 1
      exact (List.getElem?_eq_some_iff.1 c2).2
     have hk1 : (bootF (keep.drop n) f).sf = f.sf + modI y (f.bs.length - f.sf + 1) := by rw [hd]; rfl
     have ew : IntKind.wrap .i64 (IntKind.wrap .i64 ((t.n : Int) - (f.sf : Int)) + 1) = ((f.bs.length - f.sf + 1 : Nat) : Int) := by
      rw [wr' (x := (t.n : Int) - (f.sf : Int)) (by omega) (by omega), wr' (by omega) (by omega)]
      omega
     refine ⟨kd, c1, y, c5, ?_⟩
     rw [ew]
     refine (rmod_c y (by omega) (by omega)).mono ?_
     rintro _ w9 ⟨rfl, hu⟩
     refine ⟨_, rfl, ?_, hu⟩
     omega
   · have hc : ¬ (n : Int) < (ka.n : Int) := of_decide_eq_false hc
     have hd : keep.drop n = [] := List.drop_eq_nil_of_le (by omega)
     have : (bootF (keep.drop n) f).sf = f.sf := by rw [hd]; rfl
     exact ⟨by omega, rfl⟩
 · have hge : ¬ (n : Int) < (L.n : Int) := of_decide_eq_false hge
   have hn2 : n = D.fs.length := by omega
   subst hn2
   rw [List.take_length, List.drop_length, List.append_nil] at h1
   obtain ⟨p, q, r, hb, hp⟩ := h1.blk
   refine ⟨x, 2, _, _, rfl, hb, by simp, fun w10 hO10 hB10 => ⟨x, 3, _, _, rfl, hB10, by simp [splice], fun w11 hO11 hB11 => ⟨rfl, ⟨L, ?_⟩, ?_⟩⟩⟩
   · have z10 := hO10.size
     have z11 := hO11.size
     have := h1.turn (hO10.trans hO11 fun x hx => .inl hx) (off := false) (pw := none) hB11 rfl
     exact this.mono fun k hk hf => hf.imp id fun h => ⟨h, hk⟩
   · exact hO1.trans ((hO10.trans hO11 fun x hx => .inl hx).p (F := F) fun b hb => .inl (by simp at hb; rw [hb]; exact h.hx)) fun k hk => .inl hk
theorem rboot_c (h : RfP w x D L F) (hm : sumF D.fs <= 140737488355328) {ka : Sl} {keep : List Int} (hk : SliceF rInt 1 w G ka keep) (hG : ∀ k, G k -> k < w.heap.size -> ¬ F k) :
  Calls Try.prog 47 #[.pointer (some ⟨x, 0, none⟩), ka.v] w fun e w' => e = .returned (.tuple #[]) /\ AftR x (bootD D keep) F w w' :=
 (rboot_c0 h.heap (fun _ hx => hx.2) hm hk fun k hk hlt hf => hG k hk hlt hf.1).mono fun _ _ hh => ⟨hh.1, hh.2.mono fun _ hx => hx.1⟩
end
section
variable {w w' u u' : World} {x : Nat} {D D' : Dk} {L : Sl} {F G H R : Nat -> Prop} {s a b : List UInt8}
theorem nameT (b : List UInt8) : (((T b).toList == ((ByteArray.mk #[]).toList)) || (decide (((T b).size : Int) > 32))) = !nameK b := by
 have e1 : ((T b).size : Int) = (b.length : Int) := by rw [T_size]
 have e0 : ((T b).toList == ((ByteArray.mk #[]).toList)) = decide (b = []) := eq_T b []
 rw [e0, e1, nameK]
 by_cases h1 : b = [] <;> by_cases h2 : b.length <= 32 <;> simp [h1, h2] <;> omega
theorem app_by {B : Nat} {l y : Sl} {bs ys : List UInt8} (h : Own rByte 1 5 B u (fun _ => False) l bs) (hy : SliceF rByte 1 u G y ys) (hG : ∀ k, G k -> k < u.heap.size -> k < B) (hB : B <= u.heap.size) (hm : bs.length + ys.length <= 140737488355328) :
  ∃ l' w', (Builtin.append_ #[33, 33] 33 #[l.v, y.v]).run Try.prog u = .ok (Sl.v l') w' /\ OnlyP (fun k => B <= k) u w' /\ Own rByte 1 5 B w' (fun _ => False) l' (bs ++ ys) := by
 have hy' : SliceF rByte 1 u (fun k => (G k /\ k < u.heap.size) /\ l.a ≠ some ⟨k, 0, none⟩) y ys := SliceF.mono rByte_ok (SliceF.inHeap rByte_ok hy (by decide)) fun k hk => ⟨hk, fun ha => by
  have := hG k hk.1 hk.2
  have := (h.blk ha).1
  dsimp only at this
  omega⟩
 obtain ⟨s', w', k1, k2, gs, k3, k4, k5⟩ := app_own (P := Try.prog) (t := 33) (ty := 33) (e := 5) (i := Try.t5) (bytes := 1) (size := 1) (r := rByte) (F := fun k => G k /\ k < u.heap.size) (by kernel_rfl) (by kernel_rfl) rfl rfl rfl rfl rByte_ok (h.mono rByte_ok fun _ h => h.elim) hy' hB (by omega) (by decide)
 exact ⟨s', w', k1, k3.p fun b hb => .inl (k4 b hb).2.1, byteOwn k2⟩
theorem rappend_c0 (h : RfP w x D L F) (hFh : ∀ k, F k -> k < w.heap.size) {parts : Sl} {ls : List (List UInt8)} (hp : SliceF rBs 1 w G parts ls) (hm : sumF D.fs + ls.flatten.length <= 140737488355328) (hn : D.fs.length <= 100000) (s : List UInt8) :
  Calls Try.prog 37 #[.pointer (some ⟨x, 0, none⟩), .string (T s), parts.v] w fun e w' => e = .returned (.int .i64 (appD D s ls).1) /\ AftR x (appD D s ls).2 F w w' := by
 refine ret (v30w ⟨x, 0, none⟩ (T s) parts (fun v w' => v = .int .i64 (appD D s ls).1 /\ AftR x (appD D s ls).2 F w w') w ?_)
 unfold v30v
 refine ⟨_, h.offc, fun ho => ?_, fun ho => ⟨fun hb => ?_, fun hb => (rfree_c h).mono ?_⟩⟩
 · have e : appD D s ls = (50, D) := by unfold appD; rw [if_pos ho]
   rw [e]
   exact ⟨rfl, AftR.same h (Only.refl _ _)⟩
 · rw [nameT] at hb
   have hb : nameK s = false := by simpa using hb
   have e : appD D s ls = (1, D) := by unfold appD; rw [if_neg (by rw [ho]; simp), if_pos hb]
   rw [e]
   exact ⟨rfl, AftR.same h (Only.refl _ _)⟩
 rintro _ w0 ⟨rfl, hu⟩
 obtain rfl : w = w0 := hu.symm
 rw [nameT] at hb
 have hb : nameK s = true := by simpa using hb
 have hp := SliceF.inHeap rBs_ok hp (by decide)
 have hln := hp.len
 have hcp := hp.cap
 have hbg := hp.big
 have i1 := h.inv.sum
 have i2 := h.inv.big
 have xlt := h.lt
 refine ⟨_, rfl, fun nv y i u => ∃ n : Nat, i = (n : Int) /\ nv + n = ls.length /\ u = w /\ y = (D.room : Int) - sumF D.fs - Lib.lens (ls.take n) /\ 0 <= y, ls.length, ⟨0, rfl, rfl, rfl, by simp [Lib.lens], by omega⟩, ?_⟩
 rintro nv y _ w1 ⟨n, rfl, hnv, hu, hx, hx0⟩
 obtain rfl : w = w1 := hu.symm
 refine ⟨fun hlt => ?_, fun hge => ?_⟩
 · have hlt : (n : Int) < (parts.n : Int) := of_decide_eq_true hlt
   obtain ⟨ad, l, cs, g1, g2, g3, g4, g5, g6⟩ := hp.get (Int.natCast_nonneg n) hlt
   rw [Int.toNat_natCast] at g2
   obtain ⟨s0, rfl, hs0⟩ := g6
   have hl0 := hs0.len
   have ht := Lib.lens_take_succ ls n l g2
   refine ⟨ad, g1, s0, g5, fun hc => ?_, fun hc => ⟨ad, g1, s0, g5, nv - 1, by omega, n + 1, by rw [wr' (by omega) (by omega)]; rfl, by omega, rfl, ?_, ?_⟩⟩
   · have hc : (s0.n : Int) > y := of_decide_eq_true hc
     have hle : Lib.lens (ls.take (n + 1)) <= Lib.lens ls := Lib.lens_take_le ls (n + 1)
     rw [lens_flat ls] at hle
     have e : appD D s ls = (52, D) := by unfold appD; rw [if_neg (by rw [ho]; simp), if_neg (by rw [hb]; simp), if_pos (by omega)]
     rw [e]
     exact ⟨rfl, AftR.same h (Only.refl _ _)⟩
   · have hc : ¬ (s0.n : Int) > y := of_decide_eq_false hc
     rw [wr' (by omega) (by omega)]
     omega
   · have hc : ¬ (s0.n : Int) > y := of_decide_eq_false hc
     rw [wr' (by omega) (by omega)]
     omega
 have hge : ¬ (n : Int) < (parts.n : Int) := of_decide_eq_false hge
 have hn2 : n = ls.length := by omega
 subst hn2
 rw [List.take_length, lens_flat] at hx
 have hroom : ¬ D.room < sumF D.fs + ls.flatten.length := by omega
 have ltake : ∀ n, (ls.take n).flatten.length <= ls.flatten.length := fun n => by
  rw [<- lens_flat, <- lens_flat]; exact Lib.lens_take_le ls n
 refine ⟨fun nv l i u => ∃ n : Nat, i = (n : Int) /\ nv + n = ls.length /\ OnlyP (fun k => w.heap.size <= k) w u /\ Own rByte 1 5 w.heap.size u (fun _ => False) l (ls.take n).flatten, ls.length, ⟨0, rfl, rfl, OnlyP.refl _ _, Own.nil _ _ _ _ _ _⟩, ?_⟩
 rintro nv l2 _ w2 ⟨n, rfl, hnv, hO2, hl2⟩
 have z2 := hO2.size
 refine ⟨fun hlt => ?_, fun hge => ?_⟩
 · have hlt : (n : Int) < (parts.n : Int) := of_decide_eq_true hlt
   have hp2 := SliceF.onlyP rBs_ok (by decide) hp hO2 fun k hk _ hf => by have := hk.2; omega
   obtain ⟨ad, l, cs, g1, g2, g3, g4, g5, g6⟩ := hp2.get (Int.natCast_nonneg n) hlt
   rw [Int.toNat_natCast] at g2
   obtain ⟨s0, rfl, hs0⟩ := g6
   have htk : (ls.take (n + 1)).flatten = (ls.take n).flatten ++ l := by
    rw [List.take_add_one, g2]
    simp
   have hlen := ltake (n + 1)
   rw [htk, List.length_append] at hlen
   obtain ⟨l4, w3, k1, k2, k3⟩ := app_by hl2 hs0 (fun k hk _ => hk.2) z2 (by omega)
   refine ⟨ad, g1, s0, g5, l4, w3, k1, nv - 1, by omega, n + 1, by rw [wr' (by omega) (by omega)]; rfl, by omega, hO2.trans k2 fun k hk => .inl hk, ?_⟩
   rw [htk]
   exact k3
 have hge : ¬ (n : Int) < (parts.n : Int) := of_decide_eq_false hge
 have hn2 : n = ls.length := by omega
 subst hn2
 rw [List.take_length] at hl2
 have h2 := h.keep (hO2.keeps (G := F) fun k hk hh => by have := hFh k hk; omega)
 have hl2 : SliceF rByte 1 w2 (fun k => w.heap.size <= k /\ k < w2.heap.size) l2 ls.flatten := SliceF.mono rByte_ok (SliceF.inHeap rByte_ok (hl2.slice rByte_ok) (by decide)) fun k hk => ⟨hk.1.elim False.elim fun h => h.1, hk.2⟩
 have hl2n := hl2.len
 have hl2c := hl2.cap
 have hl2b := hl2.big
 obtain ⟨armed, acts, part, hbk, hpart⟩ := part_of h2
 refine ⟨part, Blk.at1 hbk 5 rfl, (rgoes_c h2).mono ?_⟩
 rintro _ w4 ⟨rfl, h4, hO4⟩
 have z4 := hO4.size
 obtain ⟨e1, e2⟩ := cutP_fs D
 have ea : ∀ ys : List UInt8, ((cutP D).1 = none -> ys = ls.flatten) -> (∀ q, (cutP D).1 = some q -> ys = ls.flatten.take (modI q (ls.flatten.length + 1))) -> appD D s ls = (codeP D, setFs (cutP D).2 (putF { getF D s with bs := (getF D s).bs ++ ys } (cutP D).2.fs)) := fun ys y1 y2 => by
  unfold appD codeP
  rw [if_neg (by rw [ho]; simp), if_neg (by rw [hb]; simp), if_neg hroom]
  rcases hcc : cutP D with ⟨g, E⟩
  rw [hcc] at y1 y2
  cases g with
  | none => rw [y1 rfl]; rfl
  | some q => rw [y2 q rfl]; rfl
 have hl4 : SliceF rByte 1 w4 (fun k => w.heap.size <= k /\ k < w2.heap.size) l2 ls.flatten := SliceF.only rByte_ok (by decide) hl2 hO4 fun k hk _ hm => by simp at hm; omega
 refine ⟨_, rfl, fun l u => u = w4 /\ ∃ ys, SliceF rByte 1 w4 (fun k => w.heap.size <= k /\ k < w2.heap.size) l ys /\ ys.length <= ls.flatten.length /\ appD D s ls = (codeP D, setFs (cutP D).2 (putF { getF D s with bs := (getF D s).bs ++ ys } (cutP D).2.fs)), ?_, fun hc => ?_, fun hc => ?_⟩
 rotate_left
 · obtain ⟨q, hq⟩ := Option.isSome_iff_exists.1 hc
   obtain rfl := hpart q hq
   have hk := modI_lt part (k := ls.flatten.length + 1) (by omega)
   have ew : IntKind.wrap .i64 ((l2.n : Int) + 1) = ((ls.flatten.length + 1 : Nat) : Int) := by rw [wr' (by omega) (by omega)]; omega
   rw [ew]
   refine (rmod_c part (by omega) (by omega)).mono ?_
   rintro _ w15 ⟨rfl, hu⟩
   refine ⟨_, rfl, modI part (ls.flatten.length + 1), ⟨rfl, by omega⟩, hu, ls.flatten.take (modI part (ls.flatten.length + 1)), ?_, by rw [List.length_take]; omega, ea _ (fun h => by rw [hq] at h; cases h) fun q' hq' => by rw [hq] at hq'; injection hq' with hq'; rw [hq']⟩
   have := hl4.cut (lo := 0) (hi := modI part (ls.flatten.length + 1)) (m := l2.c) (by omega) (by omega) (by omega) (by omega)
   rwa [Nat.sub_zero, List.drop_zero] at this
 · have hq : (cutP D).1 = none := by cases hq : (cutP D).1 with
    | none => rfl
    | some q => rw [hq] at hc; cases hc
   exact ⟨rfl, ls.flatten, hl4, Nat.le_refl _, ea _ (fun _ => rfl) fun q hq' => by rw [hq] at hq'; cases hq'⟩
 rintro l5 w5 ⟨hu, ys, hys, hyl, hap⟩ k6 w6 hk6 hk6' hO6
 obtain rfl : w4 = w5 := hu.symm
 rw [hap]
 obtain ⟨E, hE⟩ : ∃ E, (cutP D).2 = E := ⟨_, rfl⟩
 rw [hE] at h4 e1 e2
 simp only [hE]
 have z6 := hO6.size
 have h6 := h4.only0 hO6
 have g0 : (getF D s).nm = s := getF_nm D s
 have gl : ((lookF E.fs s).map (·.bs.length)).getD 0 = (getF D s).bs.length := by
  rw [e1, getF]
  cases lookF D.fs s <;> rfl
 have gsf : (getF D s).sf <= (getF D s).bs.length := by
  rw [getF]
  cases hq : lookF D.fs s with
  | none => exact Nat.le_refl _
  | some f => exact h.inv.safe f (lookF_mem hq).1
 have gle : (getF D s).bs.length <= sumF D.fs := by
  rw [getF]
  cases hq : lookF D.fs s with
  | none => exact Nat.zero_le _
  | some f => exact sumF_mem (lookF_mem hq).1
 refine (rat_c h6 s).mono ?_
 rintro _ w7 ⟨⟨i, rfl, hat⟩, hu⟩
 obtain rfl : w6 = w7 := hu.symm
 refine ⟨i, rfl, Same.refl _ _, fun s0 l6 i6 u => Only [k6] w6 u /\ s0 = T (getF D s).nm /\ i6 = ((getF D s).sf : Int) /\ SliceF rByte 1 u (fun k => F k /\ k ≠ x) l6 (getF D s).bs, ?_, fun hi => ?_, fun hi => ?_⟩
 · rintro _ l6 _ w8 ⟨hO8, rfl, rfl, hl6⟩
   have z8 := hO8.size
   have xk : x ≠ k6 := by omega
   obtain ⟨l7, w9, k1, k2, k3⟩ := app_by (B := w8.heap.size) (u := w8) (Own.nil _ _ _ _ _ _) hl6 (fun k _ hk => hk) (Nat.le_refl _) (by simp; omega)
   have z9 := k2.size
   have y8 := SliceF.only rByte_ok (by decide) (SliceF.only rByte_ok (by decide) hys hO6 (by simp)) hO8 (fun k hk _ hm => by simp at hm; omega)
   have y9 := SliceF.onlyP rByte_ok (by decide) y8 k2 fun k hk _ hf => by omega
   obtain ⟨l8, w10, m1, m2, m3⟩ := app_by k3 y9 (fun k hk _ => by omega) z9 (by simp; omega)
   have z10 := m2.size
   have sm : ∀ {a c : World}, OnlyP (fun k => w8.heap.size <= k) a c -> w8.heap.size <= a.heap.size -> Same [k6] a c := fun hO hz => hO.same (by simp; omega)
   refine ⟨l7, w9, k1, sm k2 (Nat.le_refl _), l8, w10, m1, sm m2 z9, fun w11 hO11 => ?_⟩
   have z11 := hO11.size
   rw [List.nil_append] at m3
   have o611 : OnlyP (fun k => k = k6 ∨ w8.heap.size <= k) w6 w11 := (((hO8.p (F := fun k => k = k6 ∨ w8.heap.size <= k) fun b hb => .inl (.inl (by simpa using hb))).trans k2 fun k hk => .inl (.inr hk)).trans m2 fun k hk => .inl (.inr hk)).trans (hO11.p (F := fun k => k = k6 ∨ w8.heap.size <= k) fun b hb => .inl (.inl (by simpa using hb))) fun k hk => .inl hk
   have h11 := (h6.keep (o611.keeps (G := F) fun k hk hh => by have := hFh k hk; omega)).mono (G := fun k => F k ∨ (w8.heap.size <= k /\ k < w11.heap.size)) fun k _ hk => .inl hk
   have m11 := SliceF.only rByte_ok (by decide) (SliceF.mono rByte_ok (SliceF.inHeap rByte_ok (m3.slice rByte_ok) (by decide)) (G := fun k => w8.heap.size <= k /\ k < w10.heap.size) fun k hk => ⟨hk.1.elim False.elim fun h => h.1, hk.2⟩) hO11 (fun k hk _ hm => by simp at hm; omega)
   have hsum : sumF (putF { getF D s with bs := (getF D s).bs ++ ys } E.fs) <= E.room := by
    have := sumF_put (l := E.fs) (g := getF D s) (f' := { getF D s with bs := (getF D s).bs ++ ys }) h4.inv.rise rfl (by rw [g0, gl])
    dsimp only at this
    rw [List.length_append] at this
    rw [e1] at this
    have hle : sumF (putF { nm := (getF D s).nm, bs := (getF D s).bs ++ ys, sf := (getF D s).sf } D.fs) <= E.room := by omega
    rw [e1]
    exact hle
   refine (rput_c0 h11 (fun k hk => by
    rcases hk with hk | hk
    · have := hFh k hk; omega
    · exact hk.2) (f := { getF D s with bs := (getF D s).bs ++ ys }) m11 (fun k hk => ⟨.inr ⟨hk.1, by omega⟩, by omega⟩) (h4.inv.put (by dsimp only; rw [List.length_append]; omega) (by dsimp only; rw [g0]; exact hb) hsum) (by rw [e1]; exact hn)).mono ?_
   rintro _ w12 ⟨rfl, ⟨L', h12⟩, hO12⟩
   have z12 := hO12.size
   refine ⟨rfl, hO12.same (by
    simp only [List.mem_singleton, forall_eq]
    refine ⟨by omega, fun hk => ?_⟩
    rcases hk with hk | hk
    · have := hFh _ hk; omega
    · omega), (rend_c _).mono ?_⟩
   rintro _ w13 ⟨rfl, hu⟩
   obtain rfl : w12 = w13 := hu.symm
   refine ⟨_, rfl, Same.refl _ _, rfl, ⟨L', h12.mono fun k hk hf => ?_⟩, ?_⟩
   · rcases hf with (hf | hf) | hf
     · exact .inl hf
     · exact .inr ⟨by omega, hk⟩
     · exact .inr ⟨by omega, hk⟩
   · have o26 : OnlyP F w w6 := ((hO2.only fun k hk => hk).trP (oneF h hO4)).tr0 hO6
     exact (o26.trans o611 fun k hk => .inr (by omega)).trans hO12 fun k hk => hk.imp id fun h => by omega
 · have hi : i >= 0 := of_decide_eq_true hi
   rcases hat with ⟨rfl, _⟩ | ⟨n, f, rfl, hfn, hlk⟩
   · omega
   · obtain ⟨ad, t, a1, a2, a3, a4⟩ := fq_all h6.sl' hfn
     have eg : getF D s = f := getF_some (by rw [<- e1]; exact hlk)
     refine ⟨L, h6.lc, ad, a1, T f.nm, t, (f.sf : Int), a3, fun w14 hO14 => ⟨hO14, by rw [eg], by rw [eg], ?_⟩⟩
     rw [eg]
     exact SliceF.only rByte_ok (by decide) a4 hO14 (fun k hk _ hm => by simp at hm; have := hFh k hk.1; omega)
 · have hi : ¬ i >= 0 := of_decide_eq_false hi
   rcases hat with ⟨rfl, hlk⟩ | ⟨n, f, rfl, hfn, hlk⟩
   · have eg : getF D s = fl0 s := by rw [getF, <- e1, hlk]; rfl
     rw [eg]
     exact ⟨(Only.refl [] _).weaken fun _ h => (by cases h), rfl, rfl, SliceF.nil _ _ _ _⟩
   · omega
theorem rappend_c (h : RfP w x D L F) {parts : Sl} {ls : List (List UInt8)} (hp : SliceF rBs 1 w G parts ls) (hm : sumF D.fs + ls.flatten.length <= 140737488355328) (hn : D.fs.length <= 100000) (s : List UInt8) :
  Calls Try.prog 37 #[.pointer (some ⟨x, 0, none⟩), .string (T s), parts.v] w fun e w' => e = .returned (.int .i64 (appD D s ls).1) /\ AftR x (appD D s ls).2 F w w' :=
 (rappend_c0 h.heap (fun _ hx => hx.2) hp hm hn s).mono fun _ _ hh => ⟨hh.1, hh.2.mono fun _ hx => hx.1⟩
end
end Go.Proofs.Ytijipkdbkgafkaa.Con
