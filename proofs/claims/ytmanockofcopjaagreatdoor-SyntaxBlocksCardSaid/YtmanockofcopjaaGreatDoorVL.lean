
/-
  Own work: a walk by reckoning, between parts 12 and 13: rows whose order is drawn in which own variables are made beside other work ('lateP'): they are told of last. No program in sight.
-/
import Derived.Test.YtmanockofcopjaaGreatDoorV12
namespace Go.Kt.V
open Go Go.RowKit Go.Kt
set_option linter.unusedSimpArgs false
set_option linter.unusedVariables false

/-- blocks made since ws are as they were; nothing is taken back -/
def Newer (ws w w' : World) : Prop := w.heap.size ≤ w'.heap.size ∧ ∀ k, ws.heap.size ≤ k → k < w.heap.size → w'.heap[k]? = w.heap[k]?
/-- a block that was made in none of these steps -/
def Apart (mk : List (Nat × Nat)) (b : Nat) : Prop := ∀ p ∈ mk, b < p.1 ∨ p.2 ≤ b
theorem Newer.only {bs : List Nat} {ws w w' : World} (h : Only bs w w') (hb : ∀ b ∈ bs, b < ws.heap.size ∨ w.heap.size ≤ b) : Newer ws w w' :=
  ⟨h.size, fun k h1 h2 => h.block k h2 fun hk => by rcases hb k hk with h | h <;> omega⟩
theorem Newer.only0 {ws w w' : World} (h : Only [] w w') : Newer ws w w' := Newer.only h (by simp)
theorem Newer.le {ws w w' : World} (h : Newer ws w w') : w.heap.size ≤ w'.heap.size := h.1
theorem Apart.one {m n b : Nat} {r : List (Nat × Nat)} (h : Apart ((m, n) :: r) b) : b < m ∨ n ≤ b := h _ List.mem_cons_self
theorem Apart.rest {p : Nat × Nat} {r : List (Nat × Nat)} {b : Nat} (h : Apart (p :: r) b) : Apart r b := fun q hq => h q (List.mem_cons_of_mem _ hq)

/-! ### which are late -/
structure LZ where
  z : Nat
  d : Nat
  t : TypeId
  zs : List SV
def lateAt (P : Program) (z : Nat) (o : Oper) : Option LZ := match o.op, o.dst, o.guard with
  | .alloc t, some d, none => (match zc P t with
    | some zs => bif isNl o.after.toList && clns (fun _ => false) zs then some ⟨z, d, t, zs⟩ else none
    | none => none)
  | _, _, _ => none
def lates (P : Program) : Nat → List Oper → List LZ
  | _, [] => []
  | i, o :: r => match lateAt P i o with
    | some p => p :: lates P (i + 1) r
    | none => lates P (i + 1) r
def zIx : List LZ → List Nat
  | [] => []
  | p :: r => p.z :: zIx r
def zSl : List LZ → List Nat
  | [] => []
  | p :: r => p.d :: zSl r
/-- no operation but number z has slot d -/
def noDst (z d : Nat) : Nat → List Oper → Bool
  | _, [] => true
  | i, o :: r => (Nat.beq i z || (match o.dst with
    | some e => !Nat.beq e d
    | none => true)) && noDst z d (i + 1) r
def zOk (ops : List Oper) : List LZ → Bool
  | [] => true
  | p :: r => noDst p.z p.d 0 ops && zOk ops r
theorem isNl_nil {α : Type} : ∀ {l : List α}, isNl l = true → l = []
  | [], _ => rfl
theorem lateAt_ok {P : Program} {z : Nat} {o : Oper} {p : LZ} (h : lateAt P z o = some p) : p.z = z ∧ o.op = .alloc p.t ∧ o.dst = some p.d ∧ o.guard = none ∧ o.after.toList = [] ∧ zc P p.t = some p.zs ∧ clns (fun _ => false) p.zs = true := by
  unfold lateAt at h
  split at h
  · rename_i t d h1 h2 h3
    split at h
    · rename_i zs hz
      obtain ⟨h4, rfl⟩ := bifO h
      simp only [Bool.and_eq_true] at h4
      exact ⟨rfl, h1, h2, h3, isNl_nil h4.1, hz, h4.2⟩
    · cases h
  · cases h
theorem zIx_mem {Z : List LZ} {z : Nat} : z ∈ zIx Z ↔ ∃ p ∈ Z, p.z = z := by
  induction Z with
  | nil => simp [zIx]
  | cons p r ih => simp only [zIx, List.mem_cons, ih, exists_eq_or_imp, eq_comm (a := z)]
theorem lates_ok {P : Program} : ∀ {l : List Oper} {i : Nat} {p : LZ}, p ∈ lates P i l → ∃ j o, p.z = i + j ∧ nthO l j = some o ∧ lateAt P p.z o = some p
  | [], i, p, h => by cases h
  | o :: r, i, p, h => by
    have tl : p ∈ lates P (i + 1) r → ∃ j o', p.z = i + j ∧ nthO (o :: r) j = some o' ∧ lateAt P p.z o' = some p := fun h => by
      obtain ⟨j, o', h1, h2, h3⟩ := lates_ok h
      exact ⟨j + 1, o', by omega, h2, h3⟩
    unfold lates at h
    split at h
    · rename_i q hq
      rcases List.mem_cons.1 h with rfl | h
      · have := (lateAt_ok hq).1
        exact ⟨0, o, this, rfl, by rw [this]; exact hq⟩
      · exact tl h
    · exact tl h
theorem lates_nd {P : Program} : ∀ {l : List Oper} {i : Nat}, (zIx (lates P i l)).Nodup
  | [], i => by simp [lates, zIx]
  | o :: r, i => by
    unfold lates
    split
    · rename_i q hq
      have e := (lateAt_ok hq).1
      simp only [zIx, List.nodup_cons]
      refine ⟨fun hm => ?_, lates_nd⟩
      obtain ⟨p, h1, h2⟩ := zIx_mem.1 hm
      obtain ⟨j, _, h3, _⟩ := lates_ok h1
      omega
    · exact lates_nd
theorem noDst_ok {z d : Nat} : ∀ {l : List Oper} {i j : Nat} {o : Oper}, noDst z d i l = true → nthO l j = some o → i + j ≠ z → o.dst ≠ some d := by
  intro l
  induction l with
  | nil => intro i j o _ h; cases h
  | cons c r ih =>
    intro i j o h hj hz
    simp only [noDst, Bool.and_eq_true, Bool.or_eq_true] at h
    cases j with
    | zero =>
      simp only [nthO, Option.some.injEq] at hj
      subst hj
      intro e
      rcases h.1 with h1 | h1
      · exact hz (Nat.eq_of_beq_eq_true h1)
      · rw [e] at h1; simp at h1
    | succ j => exact ih (i := i + 1) (j := j) h.2 hj (by omega)
theorem zOk_at {ops : List Oper} : ∀ {Z : List LZ}, zOk ops Z = true → ∀ p ∈ Z, noDst p.z p.d 0 ops = true
  | q :: r, h, p, hp => by
    simp only [zOk, Bool.and_eq_true] at h
    rcases List.mem_cons.1 hp with rfl | hp
    · exact h.1
    · exact zOk_at h.2 p hp

/-! ### what has come up -/
def setAll (l : Array Bool) : List Nat → Array Bool
  | [] => l
  | z :: r => setAll (l.setIfInBounds z true) r
theorem set_swap (l : Array Bool) (i j : Nat) : (l.setIfInBounds i true).setIfInBounds j true = (l.setIfInBounds j true).setIfInBounds i true := by
  by_cases h : i = j
  · subst h; rfl
  · exact Array.setIfInBounds_comm _ _ h
theorem setAll_set : ∀ {D : List Nat} {l : Array Bool} {z : Nat}, setAll (l.setIfInBounds z true) D = (setAll l D).setIfInBounds z true
  | [], _, _ => rfl
  | d :: r, l, z => by
    simp only [setAll]
    rw [set_swap, setAll_set]
theorem setAll_perm {D E : List Nat} (h : D.Perm E) : ∀ l, setAll l D = setAll l E := by
  induction h with
  | nil => intro l; rfl
  | cons x _ ih => intro l; exact ih _
  | swap x y r => intro l; simp only [setAll]; rw [set_swap]
  | trans _ _ h1 h2 => intro l; exact (h1 l).trans (h2 l)
theorem setAll_f : ∀ {D : List Nat} {l : Array Bool} {k : Nat}, (setAll l D).getD k false = true ↔ l.getD k false = true ∨ (k ∈ D ∧ k < l.size)
  | [], l, k => by simp [setAll]
  | d :: r, l, k => by
    simp only [setAll]
    rw [setAll_f]
    by_cases h : d = k
    · subst h
      by_cases hs : d < l.size
      · simp [hs]
      · simp [hs]
    · simp [Array.getElem?_setIfInBounds_ne h, Ne.symm h]
theorem setAll_t : ∀ {D : List Nat} {l : Array Bool} {k : Nat}, (setAll l D).getD k true = true ↔ l.getD k true = true ∨ k ∈ D
  | [], l, k => by simp [setAll]
  | d :: r, l, k => by
    simp only [setAll]
    rw [setAll_t]
    by_cases h : d = k
    · subst h
      by_cases hs : d < l.size
      · simp [hs]
      · simp [hs]
    · simp [Array.getElem?_setIfInBounds_ne h, Ne.symm h]
def offZ (Zi : List Nat) : List Nat → List Nat
  | [] => []
  | j :: r => bif Zi.elem j then offZ Zi r else j :: offZ Zi r
theorem offZ_mem {Zi : List Nat} : ∀ {l : List Nat} {j : Nat}, j ∈ offZ Zi l ↔ j ∈ l ∧ j ∉ Zi
  | [], j => by simp [offZ]
  | c :: r, j => by
    simp only [offZ]
    cases h : Zi.elem c with
    | true =>
      simp only [cond_true, offZ_mem, List.mem_cons]
      have h : c ∈ Zi := by simpa using h
      exact ⟨fun k => ⟨.inr k.1, k.2⟩, fun k => ⟨k.1.resolve_left (fun e => k.2 (e ▸ h)), k.2⟩⟩
    | false =>
      have h : c ∉ Zi := by simpa using h
      simp only [cond_false, List.mem_cons, offZ_mem]
      exact ⟨fun k => k.elim (fun e => ⟨.inl e, e ▸ h⟩) fun k => ⟨.inr k.1, k.2⟩, fun k => k.1.imp id fun k' => ⟨k', k.2⟩⟩
/-- nothing but what stands in R, and nothing late -/
def allIn (Zi R : List Nat) : List Nat → Bool
  | [] => true
  | j :: r => (R.elem j && !Zi.elem j) && allIn Zi R r
theorem allIn_at {Zi R : List Nat} : ∀ {l : List Nat}, allIn Zi R l = true → ∀ j ∈ l, j ∈ R ∧ j ∉ Zi
  | c :: r, h, j, hj => by
    simp only [allIn, Bool.and_eq_true, Bool.not_eq_true'] at h
    rcases List.mem_cons.1 hj with rfl | hj
    · exact ⟨by simpa using h.1.1, by simpa using h.1.2⟩
    · exact allIn_at h.2 j hj
def unlisted (l : Array Bool) : List Nat → Bool
  | [] => true
  | z :: r => !l.getD z true && unlisted l r
theorem unlisted_at {l : Array Bool} : ∀ {Zi : List Nat}, unlisted l Zi = true → ∀ z ∈ Zi, l.getD z true = false
  | c :: r, h, z, hz => by
    simp only [unlisted, Bool.and_eq_true, Bool.not_eq_true'] at h
    rcases List.mem_cons.1 hz with rfl | hz
    · exact h.1
    · exact unlisted_at h.2 z hz
def rdOk (ops : List Oper) (Zi : List Nat) (l : Array Bool) : Bool := allIn Zi (Region.ready .any ops.toArray l) (Region.ready .any ops.toArray (setAll l Zi))
def isAll (z : Nat) : List Nat → Bool
  | [] => true
  | j :: r => Nat.beq j z && isAll z r
theorem isAll_at {z : Nat} : ∀ {l : List Nat}, isAll z l = true → ∀ j ∈ l, j = z
  | c :: r, h, j, hj => by
    simp only [isAll, Bool.and_eq_true] at h
    rcases List.mem_cons.1 hj with rfl | hj
    · exact Nat.eq_of_beq_eq_true h.1
    · exact isAll_at h.2 j hj
def fin2 (ops : List Oper) (l : Array Bool) (Zi : List Nat) : List Nat → Bool
  | [] => true
  | z :: r => isAll z (Region.ready .any ops.toArray (setAll l (Zi.erase z))) && fin2 ops l Zi r
theorem fin2_at {ops : List Oper} {l : Array Bool} {Zi : List Nat} : ∀ {r : List Nat}, fin2 ops l Zi r = true → ∀ z ∈ r, ∀ j ∈ Region.ready .any ops.toArray (setAll l (Zi.erase z)), j = z
  | c :: r, h, z, hz => by
    simp only [fin2, Bool.and_eq_true] at h
    rcases List.mem_cons.1 hz with rfl | hz
    · exact isAll_at h.1
    · exact fin2_at h.2 z hz
section
variable {md : Region.Mode} {ops : Array Oper}
theorem ready_sub {l : Array Bool} {D E : List Nat} (hs : ∀ x ∈ D, x ∈ E) {j : Nat} (h : j ∈ Region.ready md ops (setAll l D)) (hj : j ∉ E) : j ∈ Region.ready md ops (setAll l E) := by
  rw [mem_ready] at h ⊢
  obtain ⟨h0, o, ho, hall⟩ := h
  refine ⟨?_, o, ho, fun e he hb => ?_⟩
  · rw [Bool.eq_false_iff] at h0 ⊢
    intro h1
    rcases setAll_t.1 h1 with h1 | h1
    · exact h0 (setAll_t.2 (.inl h1))
    · exact hj h1
  · rcases setAll_f.1 (hall e he hb) with h1 | h1
    · exact setAll_f.2 (.inl h1)
    · exact setAll_f.2 (.inr ⟨hs _ h1.1, h1.2⟩)
theorem closed_setAll {l : Array Bool} (h : Closed md ops l) {D : List Nat} (hD : ∀ z ∈ D, ∀ o, ops[z]? = some o → o.after.toList = []) : Closed md ops (setAll l D) := by
  intro k o hk hl e he hb
  rcases setAll_f.1 hl with h1 | h1
  · exact setAll_f.2 (.inl (h k o hk h1 e he hb))
  · have := hD k h1.1 o hk
    rw [Array.mem_def, this] at he
    cases he
end

/-! ### an operation turns its own slot alone -/
theorem wp_put {P : Program} {o : Oper} {a : Act} {w : World} {K : Act → World → Prop} {Q : Exit → Act → World → Prop} (hh : o.wp P a w K Q) :
    o.wp P a w (fun a' w' => K a' w' ∧ ∀ i, o.dst ≠ some i → a'.tmps[i]? = a.tmps[i]?) Q := by
  unfold Oper.wp at *
  generalize (execOp a.eval o).run P w = r at *
  cases r with
  | ok n w' =>
    cases n <;> simp only [Oper.upon] at hh ⊢
    case value v => exact ⟨hh, (put_tmps _ _ _).2.2⟩
    case skip => exact ⟨hh, (put_tmps _ _ _).2.2⟩
    case defer d => exact ⟨hh, (put_tmps _ _ _).2.2⟩
    case enter f args =>
      refine Calls.mono hh (fun e w'' he => ?_)
      cases e with
      | returned v => exact ⟨he, (put_tmps _ _ _).2.2⟩
      | _ => exact he
    case row n args => exact Rows.mono hh (fun v w'' he => ⟨he, (put_tmps _ _ _).2.2⟩)
    all_goals exact hh
  | halt x w' => cases x <;> simp only [Oper.upon] at hh ⊢ <;> exact hh

/-! ### what was made on the way -/
structure Late (Z : List LZ) (ws : World) (bz : Nat → Nat) (D : List Nat) (mk : List (Nat × Nat)) (a : Act) (w : World) : Prop where
  at_ : ∀ p ∈ Z, p.z ∈ D → a.tmps[p.d]? = some (.pointer (some ⟨bz p.z, 0, none⟩)) ∧ Blk w (bz p.z) p.t (vals β0 p.zs) ∧ ws.heap.size ≤ bz p.z ∧ Apart mk (bz p.z)
  sub : ∀ z ∈ D, z ∈ zIx Z
  ne : ∀ z ∈ D, ∀ z' ∈ D, z ≠ z' → bz z ≠ bz z'
  top : ∀ p ∈ mk, p.2 ≤ w.heap.size
  le : ws.heap.size ≤ w.heap.size
section
variable {Z : List LZ} {ws : World} {bz : Nat → Nat} {D : List Nat} {mk : List (Nat × Nat)} {a a' : Act} {w w1 : World}
theorem Late.act (h : Late Z ws bz D mk a w) (ha : ∀ p ∈ Z, a'.tmps[p.d]? = a.tmps[p.d]?) : Late Z ws bz D mk a' w :=
  ⟨fun p hp hd => by rw [ha p hp]; exact h.at_ p hp hd, h.sub, h.ne, h.top, h.le⟩
theorem Late.loud (h : Late Z ws bz D mk a w) (hN : Newer ws w w1) (ha : ∀ p ∈ Z, a'.tmps[p.d]? = a.tmps[p.d]?) : Late Z ws bz D ((w.heap.size, w1.heap.size) :: mk) a' w1 := by
  refine ⟨fun p hp hd => ?_, h.sub, h.ne, fun p hp => ?_, Nat.le_trans h.le hN.1⟩
  · obtain ⟨h1, h2, h3, h4⟩ := h.at_ p hp hd
    have h5 := h2.lt
    refine ⟨by rw [ha p hp]; exact h1, ?_, h3, fun q hq => ?_⟩
    · unfold Blk at h2 ⊢
      rw [hN.2 _ h3 h5]; exact h2
    · rcases List.mem_cons.1 hq with rfl | hq
      · exact .inl h5
      · exact h4 q hq
  · rcases List.mem_cons.1 hp with rfl | hp
    · exact Nat.le_refl _
    · exact Nat.le_trans (h.top p hp) hN.1
theorem Late.alloc (h : Late Z ws bz D mk a w) (hu : ∀ p ∈ Z, ∀ q ∈ Z, p.z = q.z → p = q) (hd : ∀ p ∈ Z, ∀ q ∈ Z, p.z ≠ q.z → p.d ≠ q.d) {p : LZ} (hp : p ∈ Z) (hn : p.z ∉ D) {b : Nat} (hb : w.heap.size ≤ b) (hO : Only [] w w1) (hB : Blk w1 b p.t (vals β0 p.zs)) (hs : p.d < a.tmps.size) :
    Late Z ws (fun z => if z = p.z then b else bz z) (p.z :: D) mk (a.put (some p.d) (.pointer (some ⟨b, 0, none⟩))) w1 := by
  refine ⟨fun q hq hqd => ?_, fun z hz => ?_, fun z hz z' hz' hne => ?_, fun q hq => Nat.le_trans (h.top q hq) hO.size, Nat.le_trans h.le hO.size⟩
  · by_cases e : q.z = p.z
    · have := hu q hq p hp e
      subst this
      rw [if_pos rfl]
      refine ⟨by simp [Act.put, hs], hB, Nat.le_trans h.le hb, fun x hx => .inr (Nat.le_trans (h.top x hx) hb)⟩
    · rw [if_neg e]
      obtain ⟨h1, h2, h3, h4⟩ := h.at_ q hq (by
        rcases List.mem_cons.1 hqd with k | k
        · exact absurd k e
        · exact k)
      refine ⟨?_, hO.blk h2 (by simp), h3, h4⟩
      rw [(put_tmps a (some p.d) _).2.2 q.d (by
        intro k
        injection k with k
        exact hd p hp q hq (Ne.symm e) k)]
      exact h1
  · rcases List.mem_cons.1 hz with rfl | hz
    · exact zIx_mem.2 ⟨p, hp, rfl⟩
    · exact h.sub z hz
  · have old : ∀ z ∈ D, bz z < w.heap.size := fun z hz => by
      obtain ⟨q, hq, rfl⟩ := zIx_mem.1 (h.sub z hz)
      exact (h.at_ q hq hz).2.1.lt
    show (if z = p.z then b else bz z) ≠ (if z' = p.z then b else bz z')
    rcases List.mem_cons.1 hz with rfl | hz <;> rcases List.mem_cons.1 hz' with rfl | hz'
    · exact absurd rfl hne
    · rw [if_pos rfl, if_neg (Ne.symm hne)]
      have := old _ hz'
      omega
    · rw [if_neg hne, if_pos rfl]
      have := old _ hz
      omega
    · rw [if_neg (fun e => hn (by rw [← e]; exact hz)), if_neg (fun e => hn (by rw [← e]; exact hz'))]
      exact h.ne _ hz _ hz' hne
end

/-! ### the first part: everything else -/
def YF : YT := fun _ _ => False
def XL (mb ms : Bool) (S : Nat → Prop) (ws : World) (o : Op) : XT := fun w0 w1 p => Newer ws w0 w1 ∧ XB mb ms S o w0 w1 p
/-- nothing is known of the late slots -/
def freeZ (st : St) : List LZ → Bool
  | [] => true
  | p :: r => (lookS st.fr p.d).isNone && Nat.blt p.d st.n && freeZ st r
theorem freeZ_at {st : St} : ∀ {Z : List LZ}, freeZ st Z = true → ∀ p ∈ Z, lookS st.fr p.d = none ∧ p.d < st.n
  | q :: r, h, p, hp => by
    simp only [freeZ, Bool.and_eq_true, Option.isNone_iff_eq_none] at h
    rcases List.mem_cons.1 hp with rfl | hp
    · exact ⟨h.1.1, Nat.le_of_ble_eq_true h.1.2⟩
    · exact freeZ_at h.2 p hp
def St.mvd (st : St) : St := { st with mv := true }
def eqA : List Bool → List Bool → Bool
  | [], [] => true
  | a :: r, b :: s => (a == b) && eqA r s
  | _, _ => false
theorem eqA_eq : ∀ {l m : List Bool}, eqA l m = true → l = m
  | [], [], _ => rfl
  | a :: r, b :: s, h => by
    simp only [eqA, Bool.and_eq_true, beq_iff_eq] at h
    rw [h.1, eqA_eq h.2]
def lL (P : Program) (ops : List Oper) (mb ms : Bool) (S : Nat → Prop) (ws : World) (mk : List (Nat × Nat)) (st : St) (o : Oper) (D : List (Nat × Nat) → St → Prop) : Prop :=
  bif isPure P o.op then False else gdP st ops o (fun st => expose st fun st => loud P (XL mb ms S ws o.op) YF st o fun s => bif s.mv then False else D ((st.w0.heap.size, s.w0.heap.size) :: mk) s.mvd) (fun st => D mk (St.mvd (st.put o.dst .un)))
/-- a quiet one, best one behind which the late ones bring nothing forth -/
def fqG (P : Program) (ops : List Oper) (Zi : List Nat) (listed : Array Bool) : List Nat → Option Nat
  | [] => none
  | i :: r => (match nthO ops i with
    | some o => bif isPure P o.op && rdOk ops Zi (listed.setIfInBounds i true) then some i else fqG P ops Zi listed r
    | none => fqG P ops Zi listed r)
def fqZ (P : Program) (ops : List Oper) (Zi : List Nat) (listed : Array Bool) (l : List Nat) : Option Nat :=
  match fqG P ops Zi listed l with
  | some q => some q
  | none => fq P ops l
def drL (P : Program) (ops : List Oper) (mb ms : Bool) (S : Nat → Prop) (ws : World) (Z : List LZ) (mid : Array Bool) (gm : Nat) (K : List (Nat × Nat) → St → Prop) : Nat → Array Bool → List (Nat × Nat) → St → Prop
  | 0, _, _, _ => False
  | g + 1, listed, mk, st => bif unlisted listed (zIx Z) && freeZ st Z then (match offZ (zIx Z) (Region.ready .any ops.toArray listed) with
    | [] => bif fin2 ops listed (zIx Z) (zIx Z) && eqA listed.toList mid.toList && Nat.beq (g + 1) gm && Nat.ble (zIx Z).length (g + 1) then K mk st else False
    | i :: r => bif rdOk ops (zIx Z) listed && Nat.ble (zIx Z).length g then (match fqZ P ops (zIx Z) listed (i :: r) with
      | some q => elimO (nthO ops q) fun o => bif okT ops listed q && (i :: r).contains q then
          gdP st ops o (fun st => qP P ops mb ms S listed q o st.mvd fun st => drL P ops mb ms S ws Z mid gm K g (listed.setIfInBounds q true) mk st.mvd) (fun st => drL P ops mb ms S ws Z mid gm K g (listed.setIfInBounds q true) mk (St.mvd (st.put o.dst .un))) else False
      | none => (match r with
        | [] => elimO (nthO ops i) fun o => lL P ops mb ms S ws mk st o fun mk st => drL P ops mb ms S ws Z mid gm K g (listed.setIfInBounds i true) mk st
        | [j] => elimO (nthO ops i) fun o => elimO (nthO ops j) fun o' =>
          lL P ops mb ms S ws mk st o (fun mk st => drL P ops mb ms S ws Z mid gm K g (listed.setIfInBounds i true) mk st) ∧
          lL P ops mb ms S ws mk st o' (fun mk st => drL P ops mb ms S ws Z mid gm K g (listed.setIfInBounds j true) mk st)
        | _ => False)) else False) else False
section
variable {P : Program} {ops : List Oper} {mb ms : Bool} {S : Nat → Prop} {β : Nat → Nat} {a : Act} {w : World} {ws : World} {Z : List LZ} {mid : Array Bool} {gm : Nat}
theorem Rep.late {st : St} (hR : Rep β st a w) (hm : st.mv = true) {d : Nat} {v : Value} (hd : lookS st.fr d = none) {w1 : World} (hO : Only [] w w1) : Rep β st (a.put (some d) v) w1 := by
  obtain ⟨p1, p2, p3⟩ := put_tmps a (some d) v
  refine ⟨frok_of ⟨p1.trans hR.ok.sz, p2.trans hR.ok.df, fun i p hl hi => ?_⟩, fun i b hb ho => ?_, hR.ne, hR.only.tr0 hO, fun h => by rw [hm] at h; cases h⟩
  · rw [p3 i (by rintro e; injection e with e; subst e; rw [hd] at hl; cases hl)]
    exact hR.ok.at_ i p hl hi
  · obtain ⟨k1, k2, k3⟩ := hR.bx i b hb ho
    exact ⟨hO.blk k1 (by simp), k2, k3⟩
theorem Rep.mvd {st : St} (hR : Rep β st a w) : Rep β st.mvd a w := ⟨hR.fr, hR.bx, hR.ne, hR.only, fun h => by cases h⟩
theorem Ext.mvd (st : St) : Ext st st.mvd := ⟨rfl, Nat.le_refl _, fun _ _ _ h _ => h, fun i b h ho _ => ⟨b, h, ho, rfl, rfl, rfl, fun _ h => h⟩, psr, dfr⟩
theorem lL_ok {Q : Exit → Act → World → Prop} {j : Nat} {o : Oper} {st : St} {mk : List (Nat × Nat)} {D : List (Nat × Nat) → St → Prop} (hj : nthO ops j = some o) (h : lL P ops mb ms S ws mk st o D) (hR : Rep β st a w) :
    wpOp P ops.toArray Q j (fun a' w' => EE P ops mb ms S j w w' ∧ (∀ i, o.dst ≠ some i → a'.tmps[i]? = a.tmps[i]?) ∧ ∃ β' st' mk', D mk' st' ∧ Ext st st' ∧ st'.mv = true ∧ Rep β' st' a' w' ∧ ((mk' = mk ∧ w' = w) ∨ (mk' = (w.heap.size, w'.heap.size) :: mk ∧ Newer ws w w'))) a w := by
  unfold lL at h
  rcases bif2 h with ⟨_, h⟩ | ⟨hp, h⟩
  · exact h.elim
  have hj' : ops.toArray[j]? = some o := by rw [nthO_eq] at hj; simpa using hj
  unfold wpOp
  simp only [hj']
  obtain ⟨s, e1, hR1, h1⟩ := gdP_ok h hR
  rcases h1 with ⟨hw, h1⟩ | ⟨hw, h1⟩
  · rw [if_pos hw]
    left
    obtain ⟨s1, h2, e2, hR2, hm2, _⟩ := expose_ok h1 hR1
    have hEE : EE P ops mb ms S j = fun w w' => bif mb && (ms || !isSt o.op) then Keeps S w w' else True := by
      funext w w'
      unfold EE
      rw [hj]
      dsimp only
      rw [hp]; rfl
    have := wp_put (loud_ok (E := fun w w' => EE P ops mb ms S j w w' ∧ Newer ws w w') (Q := Q) (fun w0 w1 p hx => ?_) (fun w w1 hO => ?_) (fun hs bk k w w1 p hy hk hO => hy.elim) h2 hR2)
    · refine Oper.wp_mono ?_ this
      rintro a' w' ⟨⟨β', st', k1, k2, k3, k4⟩, k5⟩
      rcases bif2 k1 with ⟨_, k1⟩ | ⟨km, k1⟩
      · exact k1.elim
      refine ⟨k3.1, k5, β', st'.mvd, _, k1, ((e1.trans e2).trans k2).trans (Ext.mvd _), rfl, k4.mvd, .inr ⟨?_, k3.2⟩⟩
      rw [← k4.still km, ← hR2.still hm2]
    · rw [hEE]
      obtain ⟨hN, hx⟩ := hx
      unfold XB at hx
      dsimp only
      cases hb : (mb && (ms || !isSt o.op)) with
      | true => rw [hb] at hx; exact ⟨hx.2, hx.1, hN⟩
      | false => rw [hb] at hx; exact ⟨hx, trivial, hN⟩
    · rw [hEE]
      dsimp only
      refine ⟨?_, Newer.only0 hO⟩
      cases (mb && (ms || !isSt o.op)) with
      | true => exact Keeps.only hO
      | false => exact trivial
  · rw [if_neg (by rw [hw]; exact Bool.false_ne_true)]
    exact ⟨EE_refl hj w, (put_tmps _ _ _).2.2, β, _, mk, h1, (e1.trans (Ext.put _ _ _)).trans (Ext.mvd _), rfl, (hR1.put o.dst .un).mvd, .inl ⟨rfl, trivial⟩⟩
theorem drL_ok {Q : Exit → Act → World → Prop} (hQ : ∀ c a w, ¬ Q (.panic c) a w) (hZ : ∀ p ∈ Z, ∃ o, nthO ops p.z = some o ∧ lateAt P p.z o = some p) (hzo : zOk ops Z = true) (hnd : (zIx Z).Nodup) {s0 : St} {K : List (Nat × Nat) → St → Prop}
    (hK : ∀ mk st β a w bz D m, K mk st → Ext s0 st → Rep β st a w → Late Z ws bz D mk a w → D.Perm (zIx Z) → m + D.length = gm → wpAnyE P .any ops.toArray Q (EE P ops mb ms S) m (setAll mid D) a w) :
    ∀ (m g : Nat) {listed : Array Bool} {mk : List (Nat × Nat)} {st : St} {β : Nat → Nat} {a : Act} {w : World} {bz : Nat → Nat} {D Pd : List Nat}, drL P ops mb ms S ws Z mid gm K g listed mk st → Ext s0 st → st.mv = true → Rep β st a w → Late Z ws bz D mk a w → (D ++ Pd).Perm (zIx Z) → m + D.length = g →
      wpAnyE P .any ops.toArray Q (EE P ops mb ms S) m (setAll listed D) a w := by
  intro m
  have hu : ∀ p ∈ Z, ∀ q ∈ Z, p.z = q.z → p = q := fun p hp q hq e => by
    obtain ⟨o, h1, h2⟩ := hZ p hp
    obtain ⟨o', h3, h4⟩ := hZ q hq
    rw [e, h3] at h1
    injection h1 with h1
    subst h1
    rw [e, h4] at h2
    injection h2 with h2
    exact h2.symm
  have hdo : ∀ p ∈ Z, ∀ j o, nthO ops j = some o → j ≠ p.z → o.dst ≠ some p.d := fun p hp j o hj hne => noDst_ok (zOk_at hzo p hp) hj (by rw [Nat.zero_add]; exact hne)
  have hdd : ∀ p ∈ Z, ∀ q ∈ Z, p.z ≠ q.z → p.d ≠ q.d := fun p hp q hq hne e => by
    obtain ⟨o', h3, h4⟩ := hZ q hq
    exact hdo p hp q.z o' h3 (Ne.symm hne) (by rw [(lateAt_ok h4).2.2.1, e])
  induction m using Nat.strongRecOn with
  | ind m ih =>
  intro g listed mk st β a w bz D Pd h he hm hR hL hp hg
  cases g with
  | zero => exact h.elim
  | succ g =>
  have h0 := h
  unfold drL at h
  obtain ⟨hc, h⟩ := bif_ok h
  simp only [Bool.and_eq_true] at hc
  obtain ⟨hun, hfz⟩ := hc
  have hun := unlisted_at hun
  have hDZ : ∀ x ∈ D, x ∈ zIx Z := hL.sub
  have hPZ : ∀ x ∈ Pd, x ∈ zIx Z := fun x hx => hp.subset (List.mem_append_right _ hx)
  have hlen : D.length + Pd.length = (zIx Z).length := by have := hp.length_eq; rwa [List.length_append] at this
  have hnd' : (D ++ Pd).Nodup := hp.nodup_iff.2 hnd
  have hPD : ∀ x ∈ Pd, x ∉ D := fun x hx hd => (List.nodup_append.1 hnd').2.2 x hd x hx rfl
  have hrz : ∀ j ∈ Region.ready .any ops.toArray (setAll listed D), j ∈ zIx Z → j ∈ Pd := fun j hj hjZ => by
    have h1 : j ∉ D := fun hd => by
      have := (mem_ready.1 hj).1
      rw [setAll_t.2 (.inr hd)] at this; cases this
    rcases List.mem_append.1 (hp.mem_iff.2 hjZ) with h2 | h2
    · exact absurd h2 h1
    · exact h2
  have hout : ∀ j ∈ Region.ready .any ops.toArray listed, j ∉ zIx Z → j ∈ Region.ready .any ops.toArray (setAll listed D) := fun j hj hjZ => ready_sub (l := listed) (D := []) (E := D) (by simp) hj fun k => hjZ (hDZ j k)
  have hpr : ∀ z ∈ Pd, z ∈ Region.ready .any ops.toArray (setAll listed D) := fun z hz => by
    obtain ⟨p, hpZ, rfl⟩ := zIx_mem.1 (hPZ z hz)
    obtain ⟨o, ho, hlt⟩ := hZ p hpZ
    refine mem_ready.2 ⟨?_, o, by rw [nthO_eq] at ho; simpa using ho, fun e he => ?_⟩
    · rw [Bool.eq_false_iff]
      intro k
      rcases setAll_t.1 k with k | k
      · rw [hun _ (hPZ _ hz)] at k; cases k
      · exact hPD _ hz k
    · rw [Array.mem_def, (lateAt_ok hlt).2.2.2.2.1] at he; cases he
  have AL : ∀ {m'}, m = m' + 1 → ∀ j ∈ Pd, wpOp P ops.toArray Q j (fun a' w' => EE P ops mb ms S j w w' ∧ wpAnyE P .any ops.toArray Q (EE P ops mb ms S) m' ((setAll listed D).setIfInBounds j true) a' w') a w := by
    intro m' em j hj
    obtain ⟨p, hpZ, rfl⟩ := zIx_mem.1 (hPZ j hj)
    obtain ⟨o, ho, hlt⟩ := hZ p hpZ
    obtain ⟨_, l2, l3, l4, l5, l6, l7⟩ := lateAt_ok hlt
    obtain ⟨fz1, fz2⟩ := freeZ_at hfz p hpZ
    have ho' : ops.toArray[p.z]? = some o := by rw [nthO_eq] at ho; simpa using ho
    unfold wpOp
    simp only [ho']
    rw [if_pos (wn l4)]
    left
    obtain ⟨dst, op, t', pp, af, g0⟩ := o
    dsimp only at l2 l3 l4 l5
    subst l2 l3 l4
    obtain ⟨z, z1, z2⟩ := zc_ok l6 w
    refine o_allocB z1 (z2 β0) (fun _ => rfl) fun b w1 hb hO hB => ⟨?_, ?_⟩
    · unfold EE
      rw [ho]
      dsimp only
      rw [show isPure P (.alloc p.t) = false from rfl, cond_false]
      cases (mb && (ms || !isSt (.alloc p.t))) with
      | true => exact Keeps.only hO
      | false => exact trivial
    · rw [← setAll_set]
      exact ih m' (by omega) (g + 1) (D := p.z :: D) (Pd := Pd.erase p.z) h0 he hm (hR.late hm fz1 hO) (hL.alloc hu hdd hpZ (hPD _ hj) hb hO hB (by rw [hR.ok.sz]; exact fz2))
        ((List.perm_middle.symm.trans ((List.perm_cons_erase hj).symm.append_left D)).trans hp) (by rw [List.length_cons]; omega)
  split at h
  · rename_i hoff
    obtain ⟨hc, h⟩ := bif_ok h
    simp only [Bool.and_eq_true] at hc
    obtain ⟨⟨⟨c1, c2⟩, c3⟩, c4⟩ := hc
    have emid : listed = mid := Array.toList_inj.1 (eqA_eq c2)
    have egm := Nat.eq_of_beq_eq_true c3
    have c4 := Nat.le_of_ble_eq_true c4
    cases hPd : Pd with
    | nil =>
      rw [hPd, List.append_nil] at hp
      rw [emid]
      exact hK mk st β a w bz D m h he hR hL hp (by omega)
    | cons z Pd' =>
      have hzm : z ∈ Pd := by rw [hPd]; exact List.mem_cons_self
      have hl2 : Pd.length = Pd'.length + 1 := by rw [hPd]; rfl
      obtain ⟨m', rfl⟩ : ∃ m', m = m' + 1 := ⟨m - 1, by omega⟩
      refine ⟨fun h0 => ?_, fun j hj => AL rfl j ?_⟩
      · have := hpr z hzm
        rw [h0] at this; cases this
      · by_cases hjZ : j ∈ zIx Z
        · exact hrz j hj hjZ
        · exfalso
          have h1 : j ∈ Region.ready .any ops.toArray (setAll listed ((zIx Z).erase z)) := ready_sub (fun x hx => (List.mem_erase_of_ne (fun e => hPD z hzm (by rw [← e]; exact hx))).2 (hDZ x hx)) hj (fun k => hjZ (List.mem_of_mem_erase k))
          have := fin2_at c1 z (hPZ z hzm) j h1
          exact hjZ (this ▸ hPZ z hzm)
  · rename_i i r hoff
    obtain ⟨c0, h⟩ := bif_ok h
    simp only [Bool.and_eq_true, rdOk] at c0
    have hrd := allIn_at c0.1
    have c0 := Nat.le_of_ble_eq_true c0.2
    have hrm : ∀ j ∈ Region.ready .any ops.toArray (setAll listed D), j ∉ zIx Z → j ∈ Region.ready .any ops.toArray listed := fun j hj hjZ => (hrd j (ready_sub hDZ hj hjZ)).1
    obtain ⟨m', rfl⟩ : ∃ m', m = m' + 1 := ⟨m - 1, by omega⟩
    have hio : ∀ j ∈ i :: r, j ∈ Region.ready .any ops.toArray listed ∧ j ∉ zIx Z := fun j hj => offZ_mem.1 (by rw [hoff]; exact hj)
    have hne : Region.ready .any ops.toArray (setAll listed D) = [] → False := fun h0 => by
      have := hout i (hio i List.mem_cons_self).1 (hio i List.mem_cons_self).2
      rw [h0] at this; cases this
    have hdz : ∀ j o, nthO ops j = some o → j ∉ zIx Z → ∀ p ∈ Z, o.dst ≠ some p.d := fun j o hj hjZ p hp => hdo p hp j o hj fun e => hjZ (zIx_mem.2 ⟨p, hp, e.symm⟩)
    have LL : ∀ {j : Nat} {o : Oper}, nthO ops j = some o → j ∉ zIx Z → lL P ops mb ms S ws mk st o (fun mk st => drL P ops mb ms S ws Z mid gm K g (listed.setIfInBounds j true) mk st) →
        wpOp P ops.toArray Q j (fun a' w' => EE P ops mb ms S j w w' ∧ wpAnyE P .any ops.toArray Q (EE P ops mb ms S) m' ((setAll listed D).setIfInBounds j true) a' w') a w := by
      intro j o ho hjZ h
      refine wpOp_mono (fun a' w' hh => ⟨hh.1, ?_⟩) (lL_ok ho h hR)
      obtain ⟨k0, k1, β', st', mk', k2, k3, k4, k5, k6⟩ := hh
      rw [← setAll_set]
      have hsl : ∀ p ∈ Z, a'.tmps[p.d]? = a.tmps[p.d]? := fun p hp => k1 _ (hdz j o ho hjZ p hp)
      have hL' : Late Z ws bz D mk' a' w' := by
        rcases k6 with ⟨rfl, rfl⟩ | ⟨rfl, k6⟩
        · exact hL.act hsl
        · exact hL.loud k6 hsl
      exact ih m' (by omega) g k2 (he.trans k3) k4 k5 hL' hp (by omega)
    split at h
    · rename_i q hq
      obtain ⟨o, ho, h⟩ := elimO_ex h
      obtain ⟨hc, h⟩ := bif_ok h
      simp only [Bool.and_eq_true, okT] at hc
      obtain ⟨⟨⟨⟨⟨c1, c2⟩, c3⟩, c4⟩, c5⟩, c6⟩ := hc
      obtain ⟨hq1, hq2⟩ := hio q (by simpa using c6)
      have ho' : ops.toArray[q]? = some o := by rw [nthO_eq] at ho; simpa using ho
      have hcl : Closed .any ops.toArray (setAll listed D) := closed_setAll (closed_of c3) fun z hz o hoz => by
        obtain ⟨p, hpZ, rfl⟩ := zIx_mem.1 (hDZ z hz)
        obtain ⟨o2, ho2, hlt⟩ := hZ p hpZ
        rw [nthO_eq] at ho2
        have : o2 = o := by
          have e : ops.toArray[p.z]? = some o2 := by simpa using ho2
          rw [hoz] at e
          injection e with e
          exact e.symm
        rw [← this]
        exact (lateAt_ok hlt).2.2.2.2.1
      have hN : ∀ k ∈ lsd listed 0 ops, (setAll listed D).getD k true = true := fun k hk => setAll_t.2 (.inl (by simpa using (List.all_eq_true.1 c5) k hk))
      have hfree := Region.free_spec ho' c2
      have hfree' : ∀ j oj, ops.toArray[j]? = some oj → j ≠ q → (setAll listed D).getD j true = false → (∀ e ∈ oj.after, Region.binds .any e = true → e.on ≠ q) → o.apart ops.toArray oj = true := fun j oj h1 h2 h3 h4 => hfree j oj h1 h2 (by
        rw [Bool.eq_false_iff] at h3 ⊢
        exact fun k => h3 (setAll_t.2 (.inl k))) h4
      have hqr := hout q hq1 hq2
      obtain ⟨s, e1, hR1, h1⟩ := gdP_ok h hR
      have hsl : ∀ v, ∀ p ∈ Z, (a.put o.dst v).tmps[p.d]? = a.tmps[p.d]? := fun v p hp => (put_tmps _ _ _).2.2 _ (hdz q o ho hq2 p hp)
      rcases h1 with ⟨hw, h1⟩ | ⟨hw, h1⟩
      · obtain ⟨v, s2, F, k1, k2, k3, k4, k5, k6, k7⟩ := qP_ok h1 hR1.mvd
        refine wpAnyE_first ho' (Region.noSelect_spec c1) (fun c a w hp => (hQ _ _ _ hp).elim) c4 (lsd listed 0 ops) k5 (fun w1 _ => EE_refl ho w1) m' (setAll listed D) a w hcl hN hfree' hqr (y_val hw k7) k4 ?_
        rw [← setAll_set]
        exact ih m' (by omega) g k1 (((he.trans e1).trans (Ext.mvd _)).trans (k2.trans (Ext.mvd _))) rfl k3.mvd (hL.act (hsl v)) hp (by omega)
      · refine wpAnyE_first (v := undef) (F := fun _ => True) ho' (Region.noSelect_spec c1) (fun c a w hp => (hQ _ _ _ hp).elim) c4 (lsd listed 0 ops) (fun _ _ _ _ _ _ _ => trivial) (fun w1 _ => EE_refl ho w1) m' (setAll listed D) a w hcl hN hfree' hqr (y_no hw) trivial ?_
        rw [← setAll_set]
        exact ih m' (by omega) g h1 ((he.trans e1).trans ((Ext.put _ _ _).trans (Ext.mvd _))) rfl (hR1.put o.dst .un).mvd (hL.act (hsl undef)) hp (by omega)
    · split at h
      · obtain ⟨o, ho, h⟩ := elimO_ex h
        refine ⟨fun h0 => (hne h0).elim, fun j hj => ?_⟩
        by_cases hjZ : j ∈ zIx Z
        · exact AL rfl j (hrz j hj hjZ)
        · have : j ∈ offZ (zIx Z) (Region.ready .any ops.toArray listed) := offZ_mem.2 ⟨hrm j hj hjZ, hjZ⟩
          rw [hoff] at this
          obtain rfl : j = i := by simpa using this
          exact LL ho hjZ h
      · rename_i i' _
        obtain ⟨o, ho, h⟩ := elimO_ex h
        obtain ⟨o', ho', h⟩ := elimO_ex h
        refine ⟨fun h0 => (hne h0).elim, fun j hj => ?_⟩
        by_cases hjZ : j ∈ zIx Z
        · exact AL rfl j (hrz j hj hjZ)
        · have : j ∈ offZ (zIx Z) (Region.ready .any ops.toArray listed) := offZ_mem.2 ⟨hrm j hj hjZ, hjZ⟩
          rw [hoff] at this
          rcases List.mem_cons.1 this with rfl | this
          · exact LL ho hjZ h.1
          · have := List.mem_singleton.1 this
            subst this
            exact LL ho' hjZ h.2
      · exact h.elim
end

/-! ### the second part: own variables are told of; then the rest -/
def St.oldB (st : St) (d : Nat) (t : TypeId) (zs : List SV) (b : Nat) : St :=
  St.put { st with bx := st.bx ++ [⟨some b, t, zs, st.ct, true, false, false⟩], ct := st.ct + 1 } (some d) (.box st.bx.length 0)
theorem Ext.oldB (st : St) (d : Nat) (t : TypeId) (zs : List SV) (b : Nat) : Ext st (st.oldB d t zs b) := by
  refine Ext.trans (t := { st with bx := st.bx ++ [⟨some b, t, zs, st.ct, true, false, false⟩], ct := st.ct + 1 }) ⟨rfl, Nat.le_succ _, fun _ _ _ h _ => h, fun i b' hb ho hs => ?_, fun i b hb => ?_, dfr⟩ (Ext.put _ _ _)
  · dsimp only at hb
    rw [nthB_app] at hb
    split at hb
    · simp only [Option.some.injEq] at hb
      subst hb
      dsimp only at hs
      omega
    · exact ⟨b', hb, ho, rfl, rfl, rfl, fun _ h => h⟩
  · exact ⟨b, by dsimp only; rw [nthB_app, if_neg (by have := nthB_lt hb; omega)]; exact hb, rfl, rfl, fun _ h => h⟩
section
variable {β : Nat → Nat} {st : St} {a : Act} {w : World}
theorem Rep.oldB (hR : Rep β st a w) {d : Nat} {t : TypeId} {zs : List SV} {b : Nat} (h1 : noFr st.bx.length st.fr = true) (h2 : noBx st.bx.length st.bx = true) (hdt : allOk st.bx st.dt = true) (hcl : clns (fun _ => false) zs = true)
    (hs : a.tmps[d]? = some (.pointer (some ⟨b, 0, none⟩))) (hB : Blk w b t (vals β0 zs)) (hne : ∀ i c, nthB st.bx i = some c → c.ok = true → β i ≠ b) :
    Rep (upd β st.bx.length b) (st.oldB d t zs b) a w := by
  have hself : upd β st.bx.length b st.bx.length = b := by unfold upd; rw [if_pos rfl]
  have hlt : ∀ {i c}, nthB st.bx i = some c → upd β st.bx.length b i = β i := fun {i c} h => by
    unfold upd; rw [if_neg]; have := nthB_lt h; omega
  have base : Rep (upd β st.bx.length b) { st with bx := st.bx ++ [⟨some b, t, zs, st.ct, true, false, false⟩], ct := st.ct + 1 } a w := by
    refine ⟨frok_of ⟨hR.ok.sz, hR.ok.df, fun i p hl hi => ?_⟩, fun i c hc ho => ?_, fun i j bi bj g1 g2 g3 g4 hij => ?_, ?_, hR.still⟩
    · rw [hR.ok.at_ i p hl hi]
      congr 1
      exact val_congr (g := fun j => !Nat.beq j st.bx.length) upd_no _ (noFr_at h1 i p hl)
    · dsimp only at hc
      rw [nthB_app] at hc
      split at hc
      · rename_i he
        simp only [Option.some.injEq] at hc
        subst hc
        subst he
        refine ⟨?_, fun k hk => ?_, fun hk => (by cases hk)⟩
        · rw [hself]
          dsimp only
          rw [vals_congr (g := fun _ => false) (β := upd β st.bx.length b) (β' := β0) (fun i h => (by cases h)) _ hcl]
          exact hB
        · rw [hself]
          simpa using hk
      · have e := hlt hc
        obtain ⟨k1, k2, k3⟩ := hR.bx i c hc ho
        refine ⟨?_, fun k hk => by rw [e]; exact k2 k hk, fun hk => by rw [e]; exact k3 hk⟩
        rw [e, ← vals_congr (g := fun j => !Nat.beq j st.bx.length) (β := β) (β' := upd β st.bx.length b) upd_no _ (noBx_at h2 i c hc ho)]
        exact k1
    · dsimp only at g1 g2
      rw [nthB_app] at g1 g2
      split at g1
      · rename_i e1
        split at g2
        · omega
        · subst e1
          rw [hself, hlt g2]
          exact Ne.symm (hne j bj g2 g4)
      · split at g2
        · rename_i e2
          subst e2
          rw [hself, hlt g1]
          exact hne i bi g1 g3
        · rw [hlt g1, hlt g2]
          exact hR.ne i j bi bj g1 g2 g3 g4 hij
    · have e : st.dt.map (upd β st.bx.length b) = st.dt.map β := List.map_congr_left fun i hi => by
        obtain ⟨c, hc, _⟩ := allOk_mem hdt i hi
        exact hlt hc
      show Only (st.dt.map (upd β st.bx.length b)) st.w0 w
      rw [e]
      exact hR.only
  refine ⟨frok_of ⟨base.ok.sz, base.ok.df, fun i p hl hi => ?_⟩, base.bx, base.ne, base.only, base.still⟩
  simp only [St.oldB, St.put, lookS] at hl
  cases hb : Nat.beq d i with
  | true =>
    rw [hb] at hl
    simp only [cond_true, Option.some.injEq] at hl
    subst hl
    have := Nat.eq_of_beq_eq_true hb
    subst this
    rw [hs]
    show _ = some (Value.pointer (some ⟨upd β st.bx.length b st.bx.length, 0, none⟩))
    rw [hself]
  | false => rw [hb] at hl; exact base.ok.at_ i p (by simpa using hl) hi
end
def neN (b : Nat) : List Nat → Prop → Prop
  | [], p => p
  | x :: r, p => x ≠ b → neN b r p
theorem neN_ok {b : Nat} : ∀ {l : List Nat} {p : Prop}, neN b l p → (∀ x ∈ l, x ≠ b) → p
  | [], _, h, _ => h
  | x :: r, p, h, hb => neN_ok (h (hb x List.mem_cons_self)) fun y hy => hb y (List.mem_cons_of_mem _ hy)
def putZ (ws : World) (mk : List (Nat × Nat)) : List LZ → List Nat → St → (St → Prop) → Prop
  | [], _, st, K => K st
  | p :: r, seen, st, K => bif chk st p.zs then ∀ b : Nat, ws.heap.size ≤ b → b < st.w0.heap.size → Apart mk b → neN b seen (putZ ws mk r (b :: seen) (st.oldB p.d p.t p.zs b) K) else False
theorem putZ_ok {ws : World} {mk : List (Nat × Nat)} {bz : Nat → Nat} {a : Act} {w : World} : ∀ {r : List LZ} {seen : List Nat} {st : St} {K : St → Prop} {β : Nat → Nat}, putZ ws mk r seen st K → Rep β st a w → st.mv = false →
    (∀ p ∈ r, a.tmps[p.d]? = some (.pointer (some ⟨bz p.z, 0, none⟩)) ∧ Blk w (bz p.z) p.t (vals β0 p.zs) ∧ ws.heap.size ≤ bz p.z ∧ Apart mk (bz p.z) ∧ clns (fun _ => false) p.zs = true ∧ (∀ x ∈ seen, x ≠ bz p.z) ∧ ∀ i c, nthB st.bx i = some c → c.ok = true → β i ≠ bz p.z) →
    (zIx r).Nodup → (∀ p ∈ r, ∀ q ∈ r, p.z ≠ q.z → bz p.z ≠ bz q.z) → ∃ st' β', K st' ∧ Ext st st' ∧ Rep β' st' a w
  | [], _, st, K, β, h, hR, _, _, _, _ => ⟨st, β, h, Ext.refl _, hR⟩
  | p :: r, seen, st, K, β, h, hR, hm, hp, hn, hd => by
    unfold putZ at h
    obtain ⟨hc, h⟩ := bif_ok h
    simp only [chk, Bool.and_eq_true] at hc
    obtain ⟨h1, h2, h3, h4, h5, h6, h7⟩ := hp p List.mem_cons_self
    have h := neN_ok (h (bz p.z) h3 (by rw [← hR.still hm]; exact h2.lt) h4) h6
    simp only [zIx, List.nodup_cons] at hn
    have hpq : ∀ q ∈ r, p.z ≠ q.z := fun q hq e => hn.1 (zIx_mem.2 ⟨q, hq, e.symm⟩)
    have hlt : ∀ {i c}, nthB st.bx i = some c → upd β st.bx.length (bz p.z) i = β i := fun {i c} h => by
      unfold upd; rw [if_neg]; have := nthB_lt h; omega
    obtain ⟨st', β', k1, k2, k3⟩ := putZ_ok h (hR.oldB hc.1.1.1 hc.1.1.2 hc.2 h5 h1 h2 h7) hm (fun q hq => by
      obtain ⟨g1, g2, g3, g4, g5, g6, g7⟩ := hp q (List.mem_cons_of_mem _ hq)
      have hne := hd p List.mem_cons_self q (List.mem_cons_of_mem _ hq) (hpq q hq)
      refine ⟨g1, g2, g3, g4, g5, fun x hx => ?_, fun i c hc ho => ?_⟩
      · rcases List.mem_cons.1 hx with rfl | hx
        · exact hne
        · exact g6 x hx
      · simp only [St.oldB, St.put] at hc
        rw [nthB_app] at hc
        split at hc
        · rename_i e
          subst e
          unfold upd
          rw [if_pos rfl]
          exact hne
        · rw [hlt hc]
          exact g7 i c hc ho) hn.2 fun x hx y hy => hd x (List.mem_cons_of_mem _ hx) y (List.mem_cons_of_mem _ hy)
    exact ⟨st', β', k1, (Ext.oldB _ _ _ _ _).trans k2, k3⟩
def ph2 (P : Program) (ops : List Oper) (mb ms : Bool) (S : Nat → Prop) (ws : World) (Z : List LZ) (mid : Array Bool) (gm nb : Nat) (mk : List (Nat × Nat)) (st : St) (K : St → Prop) : Prop :=
  bif Nat.beq st.bx.length nb then expose st fun st => putZ ws mk Z [] st fun st => drP P ops mb ms S (gm - (zIx Z).length) (setAll mid (zIx Z)) st K else False
def lateQ (P : Program) (ops : List Oper) (jn : Bool) (kp : List Nat) (mi : List MI) (mb ms : Bool) (S : Nat → Prop) (Z : List LZ) (mid : Array Bool) (gm : Nat) (st : St) (K : St → Prop) : Prop :=
  bif allBd st.bx then
    (bif jn then ∃ J : List (Nat × Nat) → JT (mLs mi), (∀ mk : List (Nat × Nat), allJ (mLs mi) (J mk) fun vs w => ph2 P ops mb ms S st.w0 Z mid gm st.bx.length mk (meetSt st kp mi vs w) K) ∧
      drL P ops mb ms S st.w0 Z mid gm (fun mk s => expose s fun s => endJ st kp mi (J mk) s) ops.length (Array.replicate ops.length false) [] (St.mvd (st.dropD (zSl Z)))
    else drL P ops mb ms S st.w0 Z mid gm (fun mk s => ph2 P ops mb ms S st.w0 Z mid gm st.bx.length mk s K) ops.length (Array.replicate ops.length false) [] (St.mvd (st.dropD (zSl Z)))) else False
def midL (ops : List Oper) (Zi : List Nat) : Nat → Array Bool → Array Bool
  | 0, l => l
  | f + 1, l => match offZ Zi (Region.ready .any ops.toArray l) with
    | [] => l
    | i :: _ => midL ops Zi f (l.setIfInBounds i true)
def cntF : List Bool → Nat
  | [] => 0
  | b :: r => bif b then cntF r else cntF r + 1
theorem nthB_ex : ∀ {l : List Box} {i : Nat}, i < l.length → ∃ b, nthB l i = some b
  | b :: r, 0, _ => ⟨b, rfl⟩
  | b :: r, i + 1, h => nthB_ex (l := r) (by simpa using h)
section
variable {P : Program} {ops : List Oper} {mb ms : Bool} {S : Nat → Prop} {β : Nat → Nat} {a : Act} {w : World} {mid : Array Bool} {gm : Nat} {jn : Bool} {kp : List Nat} {mi : List MI} {st : St} {K : St → Prop}
theorem lateQ_ok {Q : Exit → Act → World → Prop} (hQ : ∀ c a w, ¬ Q (.panic c) a w) (hzo : zOk ops (lates P 0 ops) = true) (h : lateQ P ops jn kp mi mb ms S (lates P 0 ops) mid gm st K) (hR : Rep β st a w) (hmv : st.mv = false)
    (hK : ∀ β' st' a' w', K st' → Ext st st' → Rep β' st' a' w' → Q .normal a' w') : wpAnyE P .any ops.toArray Q (EE P ops mb ms S) ops.length (Array.replicate ops.length false) a w := by
  have hnd : (zIx (lates P 0 ops)).Nodup := lates_nd
  have hZ : ∀ p ∈ lates P 0 ops, ∃ o, nthO ops p.z = some o ∧ lateAt P p.z o = some p := fun p hp => by
    obtain ⟨j, o, h1, h2, h3⟩ := lates_ok hp
    rw [Nat.zero_add] at h1
    exact ⟨o, by rw [h1]; exact h2, h3⟩
  generalize lates P 0 ops = Z at *
  unfold lateQ at h
  obtain ⟨hbd, h⟩ := bif_ok h
  rw [← hR.still hmv] at h
  have two : ∀ mk st' β' a' w' bz D m, ph2 P ops mb ms S w Z mid gm st.bx.length mk st' K → Ext st st' → Rep β' st' a' w' → Late Z w bz D mk a' w' → D.Perm (zIx Z) → m + D.length = gm → wpAnyE P .any ops.toArray Q (EE P ops mb ms S) m (setAll mid D) a' w' := by
    intro mk st' β' a' w' bz D m h he hR' hL hp hg
    unfold ph2 at h
    obtain ⟨hlen, h⟩ := bif_ok h
    have hlen := Nat.eq_of_beq_eq_true hlen
    obtain ⟨s1, h1, e1, hR1, hm1, _, _, _, hl1⟩ := expose_ok h hR'
    have hx : Ext st s1 := he.trans e1
    have hold : ∀ i c, nthB s1.bx i = some c → c.ok = true → β' i < w.heap.size := fun i c hc ho => by
      obtain ⟨b, hb⟩ := nthB_ex (l := st.bx) (i := i) (by have := nthB_lt hc; omega)
      obtain ⟨c', k1, k2, k3, k4⟩ := hx.ps i b hb
      rw [hc] at k1
      injection k1 with k1
      subst k1
      have hbo : b.ok = true := by rw [← k3]; exact ho
      have hs := allBd_at hbd i b hb hbo
      obtain ⟨k, hk⟩ := Option.isSome_iff_exists.1 hs
      rw [(hR1.bx i c hc ho).at_ k (k4 k hk), ← (hR.bx i b hb hbo).at_ k hk]
      exact (hR.bx i b hb hbo).blk.lt
    have hD : ∀ p ∈ Z, p.z ∈ D := fun p hpZ => hp.mem_iff.2 (zIx_mem.2 ⟨p, hpZ, rfl⟩)
    obtain ⟨s2, β2, k1, k2, k3⟩ := putZ_ok (bz := bz) h1 hR1 hm1 (fun p hpZ => by
      obtain ⟨g1, g2, g3, g4⟩ := hL.at_ p hpZ (hD p hpZ)
      obtain ⟨o, _, ho⟩ := hZ p hpZ
      exact ⟨g1, g2, g3, g4, (lateAt_ok ho).2.2.2.2.2.2, by simp, fun i c hc ho => by have := hold i c hc ho; omega⟩) hnd fun p hpZ q hqZ => hL.ne _ (hD p hpZ) _ (hD q hqZ)
    have := hp.length_eq
    rw [setAll_perm hp, show m = gm - (zIx Z).length by omega]
    exact drP_ok hQ k1 k3 fun β3 s3 a3 w3 m1 m2 m3 => hK β3 s3 a3 w3 m1 ((hx.trans k2).trans m2) m3
  have hL0 : Late Z w (fun _ => 0) [] [] a w := ⟨fun p _ h => (by cases h), fun _ h => (by cases h), fun _ h => (by cases h), fun _ h => (by cases h), Nat.le_refl _⟩
  have hR0 : Rep β (St.mvd (st.dropD (zSl Z))) a w := Rep.mvd (hR.frame (fr' := dropS (zSl Z) st.fr) fun i p hl => by
    cases he : (zSl Z).elem i with
    | true => rw [(lookS_drop (l := st.fr)).1 he] at hl; cases hl
    | false => rw [(lookS_drop (l := st.fr)).2 he] at hl; exact ⟨p, hl, rfl⟩)
  have he0 : Ext st (St.mvd (st.dropD (zSl Z))) := (Ext.dropD _ _).trans (Ext.mvd _)
  rcases bif2 h with ⟨_, h⟩ | ⟨_, h⟩
  · obtain ⟨J, hJ, h⟩ := h
    refine drL_ok hQ hZ hzo hnd (s0 := st) (fun mk s β' a' w' bz D m hk he hR' hL hp hg => ?_) ops.length ops.length (D := []) (Pd := zIx Z) h he0 rfl hR0 hL0 (List.Perm.refl _) rfl
    obtain ⟨s3, h3, e3, hR3, hm3, _⟩ := expose_ok hk hR'
    obtain ⟨vs, k1, k2⟩ := endJ_arr h3 hR3 hm3 (.inl (he.trans e3)) (hJ mk)
    exact two mk _ _ a' w' bz D m k1 Ext.meet k2 hL hp hg
  · exact drL_ok hQ hZ hzo hnd (s0 := st) (fun mk s β' a' w' bz D m hk he hR' hL hp hg => two mk s β' a' w' bz D m hk he hR' hL hp hg) ops.length ops.length (D := []) (Pd := zIx Z) h he0 rfl hR0 hL0 (List.Perm.refl _) rfl
end
end Go.Kt.V
