
/-
  Own work: a walk by reckoning, part 6: showing the world ('expose'); own variables are made and written. No program in sight.
-/
import Derived.Test.YtmanockofcopjaaGreatDoorV5
namespace Go.Kt.V
open Go Go.RowKit Go.Kt
set_option linter.unusedSimpArgs false
set_option linter.unusedVariables false

theorem nthB_app : ∀ (l : List Box) (b : Box) (i : Nat), nthB (l ++ [b]) i = if i = l.length then some b else nthB l i
  | [], b, 0 => rfl
  | [], b, i + 1 => by simp [nthB]
  | a :: r, b, 0 => rfl
  | a :: r, b, i + 1 => by
    simp only [List.cons_append, nthB, List.length_cons, Nat.add_right_cancel_iff]
    exact nthB_app r b i
theorem nthB_lt : ∀ {l : List Box} {i : Nat} {b : Box}, nthB l i = some b → i < l.length
  | a :: r, 0, _, _ => by simp
  | a :: r, i + 1, b, h => by simp only [nthB] at h; have := nthB_lt h; simp; omega
theorem nthB_set : ∀ {l : List Box} {i : Nat} {b c : Box}, nthB l i = some b → ∀ j, nthB (setB l i c) j = if j = i then some c else nthB l j
  | a :: r, 0, b, c, _, 0 => rfl
  | a :: r, 0, b, c, _, j + 1 => by simp [setB, nthB]
  | a :: r, i + 1, b, c, h, 0 => by simp [setB, nthB]
  | a :: r, i + 1, b, c, h, j + 1 => by
    simp only [nthB] at h
    simp only [setB, nthB, Nat.add_right_cancel_iff]
    exact nthB_set h j

theorem bif2 {b : Bool} {p q : Prop} (h : bif b then p else q) : (b = true ∧ p) ∨ (b = false ∧ q) := by
  cases b with
  | true => exact .inl ⟨rfl, h⟩
  | false => exact .inr ⟨rfl, h⟩
def blB (bx : List Box) (i : Nat) : Nat := match nthB bx i with
  | some b => b.blk.getD 0
  | none => 0
def clB (bx : List Box) (i : Nat) : Bool := match nthB bx i with
  | some b => b.ok && b.blk.isSome
  | none => false
abbrev St.bl (st : St) (i : Nat) : Nat := blB st.bx i
abbrev St.clg (st : St) (i : Nat) : Bool := clB st.bx i
theorem Rep.bl {β : Nat → Nat} {st : St} {a : Act} {w : World} (h : Rep β st a w) (i : Nat) (hg : st.clg i = true) : st.bl i = β i := by
  unfold St.clg clB at hg
  unfold St.bl blB
  cases hb : nthB st.bx i with
  | none => rw [hb] at hg; cases hg
  | some b =>
    rw [hb] at hg
    simp only [Bool.and_eq_true] at hg
    cases hk : b.blk with
    | none => rw [hk] at hg; cases hg.2
    | some k =>
      have := (h.bx i b hb hg.1).at_ k hk
      simp [hk, this]
theorem Rep.valsE {β : Nat → Nat} {st : St} {a : Act} {w : World} (h : Rep β st a w) {l : List SV} (hc : clns st.clg l = true) : vals st.bl l = vals β l := vals_congr (g := st.clg) h.bl l hc
theorem Rep.valE {β : Nat → Nat} {st : St} {a : Act} {w : World} (h : Rep β st a w) {s : SV} (hc : cln st.clg s = true) : val st.bl s = val β s := val_congr (g := st.clg) h.bl s hc

/-! ### showing -/
def bindB : List Box → (List Box → Prop) → Prop
  | [], K => K []
  | b :: r, K => match b.ok, b.blk with
    | true, none => ∀ k : Nat, bindB r fun r' => K ({ b with blk := some k } :: r')
    | _, _ => bindB r fun r' => K (b :: r')
def bnd1 (k : Nat) (b : Box) : Box := match b.ok, b.blk with
  | true, none => { b with blk := some k }
  | _, _ => b
def bindW (β : Nat → Nat) : Nat → List Box → List Box
  | _, [] => []
  | n, b :: r => bnd1 (β n) b :: bindW β (n + 1) r
theorem bindB_ok (β : Nat → Nat) : ∀ {bs : List Box} (n : Nat) {K : List Box → Prop}, bindB bs K → K (bindW β n bs)
  | [], _, _, h => h
  | b :: r, n, K, h => by
    unfold bindB at h
    unfold bindW
    split at h
    · rename_i h1 h2
      have := bindB_ok β (n + 1) (h (β n))
      have e : bnd1 (β n) b = { b with blk := some (β n) } := by unfold bnd1; split <;> simp_all
      rw [e]
      exact this
    · rename_i h1
      have := bindB_ok β (n + 1) h
      have e : bnd1 (β n) b = b := by
        unfold bnd1
        split
        · rename_i e1 e2; exact absurd e2 (fun e2 => h1 e1 e2)
        · rfl
      rw [e]
      exact this
theorem nthB_bindW (β : Nat → Nat) : ∀ (bs : List Box) (n i : Nat), nthB (bindW β n bs) i = (nthB bs i).map (bnd1 (β (n + i)))
  | [], _, _ => rfl
  | b :: r, n, 0 => rfl
  | b :: r, n, i + 1 => by
    simp only [bindW, nthB]
    rw [nthB_bindW β r (n + 1) i, show n + 1 + i = n + (i + 1) by omega]
def condB (w0 w : World) : List Box → List Box → Prop → Prop
  | b :: r, b' :: r', p => match b.ok, b.blk with
    | true, none => w0.heap.size ≤ b'.blk.getD 0 → b'.blk.getD 0 < w.heap.size → condB w0 w r r' p
    | _, _ => condB w0 w r r' p
  | _, _, p => p
theorem condB_ok {β : Nat → Nat} {w0 w : World} : ∀ {bs : List Box} (n : Nat) {p : Prop}, condB w0 w bs (bindW β n bs) p → (∀ i b, nthB bs i = some b → b.ok = true → b.blk = none → w0.heap.size ≤ β (n + i) ∧ β (n + i) < w.heap.size) → p
  | [], _, _, h, _ => h
  | b :: r, n, p, h, hb => by
    simp only [bindW] at h
    unfold condB at h
    split at h
    · rename_i h1 h2
      obtain ⟨e1, e2⟩ := hb 0 b rfl h1 h2
      have e : (bnd1 (β n) b).blk.getD 0 = β n := by unfold bnd1; rw [h1, h2]; rfl
      rw [e] at h
      exact condB_ok (n + 1) (h e1 e2) fun i c hc => by have := hb (i + 1) c hc; rwa [show n + (i + 1) = n + 1 + i by omega] at this
    · exact condB_ok (n + 1) h fun i c hc => by have := hb (i + 1) c hc; rwa [show n + (i + 1) = n + 1 + i by omega] at this
def shB (g : Nat → Bool) (bl : Nat → Nat) (w : World) (all : Bool) : List Box → Prop → Prop
  | [], p => p
  | b :: r, p => bif b.ok && b.blk.isSome && b.esc && (all || !b.sh) && clns g b.cells then Blk w (b.blk.getD 0) b.ty (vals bl b.cells) → shB g bl w all r p else shB g bl w all r p
theorem shB_ok {g : Nat → Bool} {bl : Nat → Nat} {w : World} {all : Bool} : ∀ {bs : List Box} {p : Prop}, shB g bl w all bs p → (∀ i b, nthB bs i = some b → b.ok = true → b.blk.isSome = true → clns g b.cells = true → Blk w (b.blk.getD 0) b.ty (vals bl b.cells)) → p
  | [], _, h, _ => h
  | b :: r, p, h, hb => by
    unfold shB at h
    cases hc : (b.ok && b.blk.isSome && b.esc && (all || !b.sh) && clns g b.cells) with
    | true =>
      rw [hc] at h
      simp only [Bool.and_eq_true] at hc
      exact shB_ok (h (hb 0 b rfl hc.1.1.1.1 hc.1.1.1.2 hc.2)) fun i c hi => hb (i + 1) c hi
    | false =>
      rw [hc] at h
      exact shB_ok h fun i c hi => hb (i + 1) c hi
def markB : List Box → List Box
  | [] => []
  | b :: r => { b with sh := b.esc } :: markB r
theorem nthB_mark : ∀ (l : List Box) (i : Nat), nthB (markB l) i = (nthB l i).map fun b => { b with sh := b.esc }
  | [], _ => rfl
  | b :: r, 0 => rfl
  | b :: r, i + 1 => nthB_mark r i
def allOk (bs : List Box) : List Nat → Bool
  | [] => true
  | i :: r => (match nthB bs i with
    | some b => b.ok
    | none => false) && allOk bs r
theorem allOk_mem {bs : List Box} : ∀ {l : List Nat}, allOk bs l = true → ∀ i ∈ l, ∃ b, nthB bs i = some b ∧ b.ok = true
  | i :: r, h, j, hj => by
    simp only [allOk, Bool.and_eq_true] at h
    rcases List.mem_cons.1 hj with rfl | hj
    · split at h
      · rename_i b hb; exact ⟨b, hb, h.1⟩
      · cases h.1
    · exact allOk_mem h.2 j hj
/-- those that are shown now, and whether they are out of one's hands -/
def newK : List Box → List Box → List (Nat × Bool)
  | b :: r, b' :: r' => bif b.ok && b.blk.isNone then (b'.blk.getD 0, b.esc) :: newK r r' else newK r r'
  | _, _ => []
/-- those in one's hands are none of those out of them -/
def neE1 (k : Nat) : List (Nat × Bool) → Prop → Prop
  | [], p => p
  | x :: r, p => bif x.2 then neE1 k r p else (x.1 ≠ k → neE1 k r p)
def neE2 (all : List (Nat × Bool)) : List (Nat × Bool) → Prop → Prop
  | [], p => p
  | x :: r, p => bif x.2 then neE1 x.1 all (neE2 all r p) else neE2 all r p
theorem neE1_ok {k : Nat} : ∀ {l : List (Nat × Bool)} {p : Prop}, neE1 k l p → (∀ y, y ∈ l → y.2 = false → y.1 ≠ k) → p
  | [], _, h, _ => h
  | x :: r, p, h, hd => by
    unfold neE1 at h
    cases hx : x.2 with
    | true => rw [hx] at h; exact neE1_ok h fun y hy => hd y (List.mem_cons_of_mem _ hy)
    | false => rw [hx] at h; exact neE1_ok (h (hd x List.mem_cons_self hx)) fun y hy => hd y (List.mem_cons_of_mem _ hy)
theorem neE2_ok {all : List (Nat × Bool)} : ∀ {l : List (Nat × Bool)} {p : Prop}, neE2 all l p → (∀ x, x ∈ l → x.2 = true → ∀ y, y ∈ all → y.2 = false → y.1 ≠ x.1) → p
  | [], _, h, _ => h
  | x :: r, p, h, hd => by
    unfold neE2 at h
    cases hx : x.2 with
    | true => rw [hx] at h; exact neE2_ok (neE1_ok h fun y hy hf => hd x List.mem_cons_self hx y hy hf) fun z hz => hd z (List.mem_cons_of_mem _ hz)
    | false => rw [hx] at h; exact neE2_ok h fun z hz => hd z (List.mem_cons_of_mem _ hz)
theorem newK_mem {β : Nat → Nat} : ∀ {bs : List Box} (n : Nat) {x : Nat × Bool}, x ∈ newK bs (bindW β n bs) → ∃ i b, nthB bs i = some b ∧ b.ok = true ∧ x = (β (n + i), b.esc)
  | [], _, _, h => by cases h
  | b :: r, n, x, h => by
    simp only [bindW, newK] at h
    cases hc : (b.ok && b.blk.isNone) with
    | true =>
      rw [hc] at h
      simp only [Bool.and_eq_true, Option.isNone_iff_eq_none] at hc
      rcases List.mem_cons.1 h with rfl | h
      · refine ⟨0, b, rfl, hc.1, ?_⟩
        have : (bnd1 (β n) b).blk.getD 0 = β n := by unfold bnd1; rw [hc.1, hc.2]; rfl
        rw [this]; rfl
      · obtain ⟨i, c, h1, h2, h3⟩ := newK_mem (n + 1) h
        exact ⟨i + 1, c, h1, h2, by rw [h3, show n + 1 + i = n + (i + 1) by omega]⟩
    | false =>
      rw [hc] at h
      obtain ⟨i, c, h1, h2, h3⟩ := newK_mem (n + 1) h
      exact ⟨i + 1, c, h1, h2, by rw [h3, show n + 1 + i = n + (i + 1) by omega]⟩
/-- those that go out of one's hands now, having been shown before, and those in one's hands: they lie apart -/
def lateK : List Box → List Nat
  | [] => []
  | b :: r => bif b.ok && b.blk.isSome && b.esc && !b.sh then b.blk.getD 0 :: lateK r else lateK r
def mineK : List Box → List Nat
  | [] => []
  | b :: r => bif b.ok && b.blk.isSome && !b.esc then b.blk.getD 0 :: mineK r else mineK r
def neL1 (k : Nat) : List Nat → Prop → Prop
  | [], p => p
  | x :: r, p => x ≠ k → neL1 k r p
def neL2 (mine : List Nat) : List Nat → Prop → Prop
  | [], p => p
  | k :: r, p => neL1 k mine (neL2 mine r p)
theorem neL1_ok {k : Nat} : ∀ {l : List Nat} {p : Prop}, neL1 k l p → (∀ y, y ∈ l → y ≠ k) → p
  | [], _, h, _ => h
  | x :: r, p, h, hd => neL1_ok (h (hd x List.mem_cons_self)) fun y hy => hd y (List.mem_cons_of_mem _ hy)
theorem neL2_ok {mine : List Nat} : ∀ {l : List Nat} {p : Prop}, neL2 mine l p → (∀ k, k ∈ l → ∀ y, y ∈ mine → y ≠ k) → p
  | [], _, h, _ => h
  | k :: r, p, h, hd => neL2_ok (neL1_ok h fun y hy => hd k List.mem_cons_self y hy) fun z hz => hd z (List.mem_cons_of_mem _ hz)
theorem lateK_mem : ∀ {bs : List Box} {x : Nat}, x ∈ lateK bs → ∃ i b, nthB bs i = some b ∧ b.ok = true ∧ b.esc = true ∧ b.blk = some x
  | [], _, h => by cases h
  | b :: r, x, h => by
    simp only [lateK] at h
    cases hc : (b.ok && b.blk.isSome && b.esc && !b.sh) with
    | true =>
      rw [hc] at h
      simp only [Bool.and_eq_true] at hc
      rcases List.mem_cons.1 h with rfl | h
      · obtain ⟨k, hk⟩ := Option.isSome_iff_exists.1 hc.1.1.2
        exact ⟨0, b, rfl, hc.1.1.1, hc.1.2, by rw [hk]; rfl⟩
      · obtain ⟨i, c, h1, h2⟩ := lateK_mem h
        exact ⟨i + 1, c, h1, h2⟩
    | false =>
      rw [hc] at h
      obtain ⟨i, c, h1, h2⟩ := lateK_mem h
      exact ⟨i + 1, c, h1, h2⟩
theorem mineK_mem : ∀ {bs : List Box} {x : Nat}, x ∈ mineK bs → ∃ i b, nthB bs i = some b ∧ b.ok = true ∧ b.esc = false ∧ b.blk = some x
  | [], _, h => by cases h
  | b :: r, x, h => by
    simp only [mineK] at h
    cases hc : (b.ok && b.blk.isSome && !b.esc) with
    | true =>
      rw [hc] at h
      simp only [Bool.and_eq_true, Bool.not_eq_true'] at hc
      rcases List.mem_cons.1 h with rfl | h
      · obtain ⟨k, hk⟩ := Option.isSome_iff_exists.1 hc.1.2
        exact ⟨0, b, rfl, hc.1.1, hc.2, by rw [hk]; rfl⟩
      · obtain ⟨i, c, h1, h2⟩ := mineK_mem h
        exact ⟨i + 1, c, h1, h2⟩
    | false =>
      rw [hc] at h
      obtain ⟨i, c, h1, h2⟩ := mineK_mem h
      exact ⟨i + 1, c, h1, h2⟩
theorem lateK_ne {β : Nat → Nat} {st : St} {a : Act} {w : World} (hR : Rep β st a w) : ∀ k, k ∈ lateK st.bx → ∀ y, y ∈ mineK st.bx → y ≠ k := fun k hk y hy => by
  obtain ⟨i, b, i1, i2, i3, i4⟩ := lateK_mem hk
  obtain ⟨j, c, j1, j2, j3, j4⟩ := mineK_mem hy
  have e1 := (hR.bx i b i1 i2).at_ k i4
  have e2 := (hR.bx j c j1 j2).at_ y j4
  rw [← e1, ← e2]
  refine hR.ne j i c b j1 i1 j2 i2 fun e => ?_
  subst e
  rw [i1] at j1
  injection j1 with j1
  subst j1
  rw [i3] at j3
  cases j3
def expose (st : St) (K : St → Prop) : Prop :=
  bif st.mv then
    bif allOk st.bx st.dt then
      bindB st.bx fun bx => ∀ w : World, condB st.w0 w st.bx bx (Only (st.dt.map (blB bx)) st.w0 w →
        shB (clB bx) (blB bx) w true bx (neE2 (newK st.bx bx) (newK st.bx bx) (neL2 (mineK st.bx) (lateK st.bx) (K { st with bx := markB bx, w0 := w, mv := false, dt := [] }))))
    else False
  else shB st.clg st.bl st.w0 false st.bx (neL2 (mineK st.bx) (lateK st.bx) (K { st with bx := markB st.bx }))
theorem expose_ok {st : St} {K : St → Prop} (h : expose st K) {β : Nat → Nat} {a : Act} {w : World} (hR : Rep β st a w) : ∃ st', K st' ∧ Ext st st' ∧ Rep β st' a w ∧ st'.mv = false ∧ st'.fr = st.fr ∧ st'.n = st.n ∧ st'.ct = st.ct ∧ st'.bx.length = st.bx.length := by
  unfold expose at h
  rcases bif2 h with ⟨hm, h⟩ | ⟨hm, h⟩
  case inr =>
    have hk := shB_ok h fun i b hb ho hs hc => by
      have := (hR.bx i b hb ho).blk
      cases hk : b.blk with
      | none => rw [hk] at hs; cases hs
      | some k =>
        have e := (hR.bx i b hb ho).at_ k hk
        rw [hR.valsE hc, ← hR.still hm]
        rw [e] at this
        exact this
    have hk := neL2_ok hk (lateK_ne hR)
    have key : ∀ i b', nthB (markB st.bx) i = some b' → ∃ b, nthB st.bx i = some b ∧ b' = { b with sh := b.esc } := fun i b' hb => by
      rw [nthB_mark] at hb
      cases hn : nthB st.bx i with
      | none => rw [hn] at hb; cases hb
      | some b => rw [hn] at hb; exact ⟨b, rfl, by simpa using hb.symm⟩
    refine ⟨_, hk, ⟨rfl, Nat.le_refl _, fun _ _ _ h _ => h, fun i b' hb ho _ => ?_, fun i b hb => ?_, dfr⟩, ⟨hR.fr, fun i b' hb ho => ?_, fun i j bi bj h1 h2 h3 h4 hij => ?_, hR.only, hR.still⟩, hm, rfl, rfl, rfl, ?_⟩
    · obtain ⟨b, h1, rfl⟩ := key i b' hb
      exact ⟨b, h1, ho, rfl, rfl, rfl, fun _ h => h⟩
    · exact ⟨{ b with sh := b.esc }, by rw [nthB_mark, hb]; rfl, rfl, rfl, fun _ h => h⟩
    · obtain ⟨b, h1, rfl⟩ := key i b' hb
      have := hR.bx i b h1 ho
      exact ⟨this.blk, this.at_, this.new⟩
    · obtain ⟨b, g1, rfl⟩ := key i bi h1
      obtain ⟨c, g2, rfl⟩ := key j bj h2
      exact hR.ne i j b c g1 g2 h3 h4 hij
    · have : ∀ l : List Box, (markB l).length = l.length := fun l => by
        induction l with
        | nil => rfl
        | cons b r ih => simp [markB, ih]
      exact this _
  case inl =>
    obtain ⟨hall, h⟩ := bif_ok h
    have h := bindB_ok β 0 h w
    have hnb : ∀ i, nthB (bindW β 0 st.bx) i = (nthB st.bx i).map (bnd1 (β i)) := fun i => by rw [nthB_bindW, Nat.zero_add]
    have hbl : ∀ i b, nthB st.bx i = some b → b.ok = true → ∃ b', nthB (bindW β 0 st.bx) i = some b' ∧ b'.ok = true ∧ b'.blk = some (β i) ∧ b'.cells = b.cells ∧ b'.ty = b.ty ∧ b'.stp = b.stp := fun i b hb ho => by
      refine ⟨bnd1 (β i) b, by rw [hnb, hb]; rfl, ?_⟩
      unfold bnd1
      split
      · exact ⟨ho, rfl, rfl, rfl, rfl⟩
      · rename_i hne
        refine ⟨ho, ?_, rfl, rfl, rfl⟩
        cases hk : b.blk with
        | none => exact absurd hk (fun e => hne ho e)
        | some k => rw [(hR.bx i b hb ho).at_ k hk]
    have hbl' : ∀ i b', nthB (bindW β 0 st.bx) i = some b' → b'.ok = true → ∃ b, nthB st.bx i = some b ∧ b.ok = true ∧ b'.blk = some (β i) ∧ b'.cells = b.cells ∧ b'.ty = b.ty ∧ b'.stp = b.stp := fun i b' hb ho => by
      rw [hnb] at hb
      cases hn : nthB st.bx i with
      | none => rw [hn] at hb; cases hb
      | some b =>
        rw [hn] at hb
        simp only [Option.map_some, Option.some.injEq] at hb
        subst hb
        have hob : b.ok = true := by
          unfold bnd1 at ho
          split at ho
          · assumption
          · exact ho
        obtain ⟨b2, e1, e2, e3, e4, e5, e6⟩ := hbl i b hn hob
        rw [hnb, hn] at e1
        simp only [Option.map_some, Option.some.injEq] at e1
        subst e1
        exact ⟨b, rfl, hob, e3, e4, e5, e6⟩
    have h := condB_ok 0 h fun i b hb ho hk => by
      rw [Nat.zero_add]
      exact ⟨(hR.bx i b hb ho).new hk, (hR.bx i b hb ho).blk.lt⟩
    have edt : st.dt.map (blB (bindW β 0 st.bx)) = st.dt.map β := by
      refine List.map_congr_left fun i hi => ?_
      obtain ⟨b, h1, h2⟩ := allOk_mem hall i hi
      obtain ⟨b', e1, e2, e3, _⟩ := hbl i b h1 h2
      unfold blB
      rw [e1]
      simp [e3]
    have h := h (by rw [edt]; exact hR.only)
    have hcl : ∀ i, clB (bindW β 0 st.bx) i = true → blB (bindW β 0 st.bx) i = β i := fun i hg => by
      unfold clB at hg
      unfold blB
      cases hn : nthB (bindW β 0 st.bx) i with
      | none => rw [hn] at hg; cases hg
      | some b' =>
        rw [hn] at hg
        simp only [Bool.and_eq_true] at hg
        obtain ⟨b, _, _, e3, _⟩ := hbl' i b' hn hg.1
        simp [e3]
    have hk := shB_ok h fun i b' hb ho hs hc => by
      obtain ⟨b, e1, e2, e3, e4, e5, e6⟩ := hbl' i b' hb ho
      rw [vals_congr hcl _ hc, e3, e4, e5]
      exact (hR.bx i b e1 e2).blk
    have hk := neE2_ok hk fun x hx hxe y hy hye => by
      obtain ⟨i, b, i1, i2, rfl⟩ := newK_mem 0 hx
      obtain ⟨j, c, j1, j2, rfl⟩ := newK_mem 0 hy
      rw [Nat.zero_add, Nat.zero_add]
      refine hR.ne j i c b j1 i1 j2 i2 fun e => ?_
      subst e
      rw [i1] at j1
      injection j1 with j1
      subst j1
      rw [hxe] at hye
      cases hye
    have hk := neL2_ok hk (lateK_ne hR)
    have key : ∀ i b', nthB (markB (bindW β 0 st.bx)) i = some b' → b'.ok = true → ∃ b, nthB st.bx i = some b ∧ b.ok = true ∧ b'.blk = some (β i) ∧ b'.cells = b.cells ∧ b'.ty = b.ty ∧ b'.stp = b.stp := fun i b' hb ho => by
      rw [nthB_mark] at hb
      cases hn : nthB (bindW β 0 st.bx) i with
      | none => rw [hn] at hb; cases hb
      | some c =>
        rw [hn] at hb
        simp only [Option.map_some, Option.some.injEq] at hb
        subst hb
        exact hbl' i c hn ho
    refine ⟨_, hk, ⟨rfl, Nat.le_refl _, fun _ _ _ h _ => h, fun i b' hb ho _ => ?_, fun i b hb => ?_, dfr⟩, ⟨hR.fr, fun i b' hb ho => ?_, fun i j bi bj h1 h2 h3 h4 hij => ?_, Only.refl _ _, fun _ => rfl⟩, rfl, rfl, rfl, rfl, ?_⟩
    · obtain ⟨b, e1, e2, e3, e4, e5, e6⟩ := key i b' hb ho
      exact ⟨b, e1, e2, e4.symm, e5.symm, e6.symm, fun k hk => by rw [e3, (hR.bx i b e1 e2).at_ k hk]⟩
    · refine ⟨{ bnd1 (β i) b with sh := (bnd1 (β i) b).esc }, by rw [nthB_mark, hnb, hb]; rfl, ?_⟩
      unfold bnd1
      split
      · rename_i e1 e2
        exact ⟨rfl, rfl, fun k hk => by rw [e2] at hk; cases hk⟩
      · exact ⟨rfl, rfl, fun _ h => h⟩
    · obtain ⟨b, e1, e2, e3, e4, e5, e6⟩ := key i b' hb ho
      refine ⟨by rw [e4, e5]; exact (hR.bx i b e1 e2).blk, fun k hk => by rw [e3] at hk; simpa using hk, fun hk => by rw [e3] at hk; cases hk⟩
    · obtain ⟨b, e1, e2, _⟩ := key i bi h1 h3
      obtain ⟨c, f1, f2, _⟩ := key j bj h2 h4
      exact hR.ne i j b c e1 f1 e2 f2 hij
    · have l1 : ∀ l : List Box, (markB l).length = l.length := fun l => by
        induction l with
        | nil => rfl
        | cons b r ih => simp [markB, ih]
      have l2 : ∀ (l : List Box) n, (bindW β n l).length = l.length := fun l => by
        induction l with
        | nil => intro n; rfl
        | cons b r ih => intro n; simp [bindW, ih]
      exact (l1 _).trans (l2 _ _)
end Go.Kt.V
