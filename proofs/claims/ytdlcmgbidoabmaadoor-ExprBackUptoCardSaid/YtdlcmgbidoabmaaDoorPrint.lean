/-
  Own work: a right tree's text is read as the tree: the plain law of tokens and of reading.
-/
import Derived.Test.YtdlcmgbidoabmaaDoorDeeps
namespace Go.Proofs.YtdlcmgbidoabmaaDoor.Con
open Go Go.RowKit Go.Kt Go.Kt.V
set_option linter.unusedSimpArgs false
set_option linter.unusedVariables false
set_option maxHeartbeats 4000000

/-! ## the whole text -/
def txM : Nat → Ex → Bool → List UInt8
  | 0, _, _ => []
  | d + 1, x, wr => clo wr (opn wr [] ++ (
    if x.k = 1 then Lib.itoa x.n
    else if x.k = 2 then x.s
    else if x.k = 3 then [105, 110, 40] ++ x.s ++ [41]
    else if x.k = 4 then (match x.subs with
      | [y] => opTx x.op.toNat ++ txM d y (decide (levM y < 6))
      | _ => [])
    else (match x.subs with
      | [y, z] => txM d y (decide (levM y < levM x)) ++ ([32] ++ opTx x.op.toNat ++ [32]) ++ txM d z (decide (levM z ≤ levM x))
      | _ => [])))
theorem opn_eq (wr : Bool) (l : List UInt8) : opn wr l = l ++ opn wr [] := by cases wr <;> simp [opn]
theorem clo_eq (wr : Bool) (l m : List UInt8) : clo wr (l ++ m) = l ++ clo wr m := by cases wr <;> simp [clo]
theorem clo_ge (wr : Bool) (l : List UInt8) : l.length ≤ (clo wr l).length := by cases wr <;> simp [clo]
theorem opn_ge (wr : Bool) (l : List UInt8) : l.length ≤ (opn wr l).length := by cases wr <;> simp [opn]
theorem pg_ge : ∀ (d : Nat) (x : Ex) (wr : Bool) (l : List UInt8), l.length ≤ (pgM d x wr l).length
  | 0, _, _, _ => Nat.le_refl _
  | d + 1, x, wr, l => by
    rw [pgM]
    split
    · exact Nat.le_refl _
    refine Nat.le_trans ?_ (clo_ge _ _)
    have h1 := opn_ge wr l
    split
    · rw [List.length_append]; omega
    · split
      · rw [List.length_append]; omega
      · split
        · rw [List.length_append]; omega
        · split
          · split
            · rename_i y _
              have := pg_ge d y (decide (levM y < 6)) (opn wr l ++ opTx x.op.toNat)
              rw [List.length_append] at this
              omega
            · exact Nat.le_refl _
          · split
            · rename_i y z _
              have a1 := pg_ge d y (decide (levM y < levM x)) (opn wr l)
              have a2 := pg_ge d z (decide (levM z ≤ levM x)) (pgM d y (decide (levM y < levM x)) (opn wr l) ++ ([32] ++ opTx x.op.toNat ++ [32]))
              rw [List.length_append] at a2
              omega
            · exact Nat.le_refl _
/-- a page that is not too long was not cut -/
theorem pg_tx : ∀ (d : Nat) {x : Ex} (wr : Bool) (l : List UInt8), shapeM d x = true → (pgM d x wr l).length ≤ 16384 → pgM d x wr l = l ++ txM d x wr
  | 0, x, wr, l, h, _ => by cases h
  | d + 1, x, wr, l, h, hl => by
    rw [shapeM, Bool.and_eq_true] at h
    obtain ⟨hh, ha⟩ := h
    have h0 := pg_ge (d + 1) x wr l
    have hc : ¬ 16384 < l.length := by omega
    rw [pgM, if_neg hc] at hl ⊢
    rw [txM, ← clo_eq]
    have hl2 := Nat.le_trans (clo_ge wr _) hl
    congr 1
    by_cases k1 : x.k = 1
    · rw [if_pos k1, if_pos k1, opn_eq wr l, List.append_assoc]
    by_cases k2 : x.k = 2
    · rw [if_neg k1, if_neg k1, if_pos k2, if_pos k2, opn_eq wr l, List.append_assoc]
    by_cases k3 : x.k = 3
    · rw [if_neg k1, if_neg k1, if_neg k2, if_neg k2, if_pos k3, if_pos k3, opn_eq wr l, List.append_assoc]
    by_cases k4 : x.k = 4
    · obtain ⟨y, hy, _⟩ := head4 hh k4
      rw [if_neg k1, if_neg k2, if_neg k3, if_pos k4, hy] at hl2
      rw [if_neg k1, if_neg k1, if_neg k2, if_neg k2, if_neg k3, if_neg k3, if_pos k4, if_pos k4, hy]
      rw [hy] at ha
      dsimp only at hl2 ⊢
      simp only [all1, Bool.and_true] at ha
      rw [pg_tx d _ _ ha hl2, opn_eq wr l]
      simp only [List.append_assoc]
    · obtain ⟨_, y, z, hy, _⟩ := head5 hh k1 k2 k3 k4
      rw [if_neg k1, if_neg k2, if_neg k3, if_neg k4, hy] at hl2
      rw [if_neg k1, if_neg k1, if_neg k2, if_neg k2, if_neg k3, if_neg k3, if_neg k4, if_neg k4, hy]
      rw [hy] at ha
      dsimp only at hl2 ⊢
      simp only [all1, Bool.and_true, Bool.and_eq_true] at ha
      have h1 := pg_ge d z (decide (levM z ≤ levM x)) (pgM d y (decide (levM y < levM x)) (opn wr l) ++ ([32] ++ opTx x.op.toNat ++ [32]))
      rw [List.length_append] at h1
      rw [pg_tx d _ _ ha.2 hl2, pg_tx d _ _ ha.1 (by omega), opn_eq wr l]
      simp only [List.append_assoc]

/-! ## its tokens -/
abbrev K3 := Int × List UInt8 × Int
def k3 (t : Tk) : K3 := (t.k, t.t, t.n)
def opk (wr : Bool) : List K3 := if wr then [(4, [40], 0)] else []
def clk (wr : Bool) : List K3 := if wr then [(4, [41], 0)] else []
def ptk : Nat → Ex → Bool → List K3
  | 0, _, _ => []
  | d + 1, x, wr => opk wr ++ (
    if x.k = 1 then [(3, [], x.n)]
    else if x.k = 2 then [(1, x.s, 0)]
    else if x.k = 3 then [(2, [105, 110], 0), (4, [40], 0), (1, x.s, 0), (4, [41], 0)]
    else if x.k = 4 then (match x.subs with
      | [y] => (4, opTx x.op.toNat, 0) :: ptk d y (decide (levM y < 6))
      | _ => [])
    else (match x.subs with
      | [y, z] => ptk d y (decide (levM y < levM x)) ++ (4, opTx x.op.toNat, 0) :: ptk d z (decide (levM z ≤ levM x))
      | _ => [])) ++ clk wr
/-- how a part's text may begin -/
def startB (c : UInt8) : Bool := letterB c || digitB c || c == 40 || c == 45 || c == 33
theorem start_all : ∀ n : Fin 256, startB (UInt8.ofNat n.val) = true → blankB (UInt8.ofNat n.val) = false ∧ (UInt8.ofNat n.val == 47) = false ∧ UInt8.ofNat n.val ≠ 61 ∧ UInt8.ofNat n.val ≠ 62 := by decide +kernel
theorem u8_all {p : UInt8 → Prop} (h : ∀ n : Fin 256, p (UInt8.ofNat n.val)) (c : UInt8) : p c := by
  have := h ⟨c.toNat, c.toNat_lt⟩
  simpa using this
theorem start_ok {c : UInt8} (h : startB c = true) : blankB c = false ∧ (c == 47) = false ∧ c ≠ 61 ∧ c ≠ 62 := u8_all (p := fun c => startB c = true → blankB c = false ∧ (c == 47) = false ∧ c ≠ 61 ∧ c ≠ 62) start_all c h
/-- how a text goes on behind a part -/
def endR (r : List UInt8) : Prop := ∀ c, r.head? = some c → c = 32 ∨ c = 41
theorem endR.word {r : List UInt8} (h : endR r) (p : UInt8 → Bool) (h1 : p 32 = false) (h2 : p 41 = false) : ∀ (l : List UInt8), (∀ c, c ∈ l → p c = true) → (l ++ r).takeWhile p = l
  | [], _ => by
    cases r with
    | nil => rfl
    | cons c r =>
      rw [List.nil_append, List.takeWhile_cons]
      rcases h c rfl with rfl | rfl
      · rw [if_neg (by rw [h1]; decide)]
      · rw [if_neg (by rw [h2]; decide)]
  | c :: l, hl => by
    rw [List.cons_append, List.takeWhile_cons, if_pos (hl c (by simp)), h.word p h1 h2 l fun x hx => hl x (by simp [hx])]

/-! ## digits -/
theorem head_app {a b : List UInt8} (h : a ≠ []) : (a ++ b).head? = a.head? := by
  cases a with
  | nil => exact absurd rfl h
  | cons c a => rfl

theorem dec_one {u : Nat} (h : u < 10) : Lib.decDigits u = [UInt8.ofNat (48 + u)] := by rw [Lib.decDigits, dif_pos h]
theorem dec_more {u : Nat} (h : ¬ u < 10) : Lib.decDigits u = Lib.decDigits (u / 10) ++ [UInt8.ofNat (48 + u % 10)] := by rw [Lib.decDigits, dif_neg h]
theorem dig_nat {u : Nat} (h : u < 10) : (UInt8.ofNat (48 + u)).toNat = 48 + u := by
  rw [UInt8.toNat_ofNat']
  omega
theorem dig_b {u : Nat} (h : u < 10) : digitB (UInt8.ofNat (48 + u)) = true := by
  unfold digitB
  rw [dig_nat h]
  simp
  omega
theorem dec_all (u : Nat) : ∀ c, c ∈ Lib.decDigits u → digitB c = true := by
  induction u using Nat.strongRecOn with
  | _ u ih =>
    intro c hc
    by_cases h : u < 10
    · rw [dec_one h, List.mem_singleton] at hc
      subst hc
      exact dig_b h
    · rw [dec_more h, List.mem_append, List.mem_singleton] at hc
      rcases hc with hc | rfl
      · exact ih (u / 10) (by omega) c hc
      · exact dig_b (Nat.mod_lt _ (by decide))
theorem dec_ne (u : Nat) : Lib.decDigits u ≠ [] := by
  by_cases h : u < 10
  · rw [dec_one h]; simp
  · rw [dec_more h]; simp
theorem decV_snoc (a : Nat) (l : List UInt8) (c : UInt8) : decV a (l ++ [c]) = decV a l * 10 + (c.toNat - 48) := by
  simp [decV, List.foldl_append]
theorem dec_val (u : Nat) : decV 0 (Lib.decDigits u) = u := by
  induction u using Nat.strongRecOn with
  | _ u ih =>
    by_cases h : u < 10
    · rw [dec_one h]
      have := dig_nat h
      simp only [decV, List.foldl_cons, List.foldl_nil]
      omega
    · rw [dec_more h, decV_snoc, ih (u / 10) (by omega), dig_nat (Nat.mod_lt _ (by decide))]
      omega
theorem dec_head (u : Nat) (h0 : 0 < u) : (Lib.decDigits u).head? ≠ some 48 := by
  induction u using Nat.strongRecOn with
  | _ u ih =>
    by_cases h : u < 10
    · rw [dec_one h, List.head?_cons]
      intro e
      injection e with e
      have := congrArg UInt8.toNat e
      rw [dig_nat h] at this
      have h48 : (48 : UInt8).toNat = 48 := rfl
      omega
    · rw [dec_more h, head_app (dec_ne _)]
      exact ih (u / 10) (by omega) (by omega)
theorem dec_len1 (u : Nat) (h : 1 < (Lib.decDigits u).length) : 0 < u := by
  refine Decidable.byContradiction fun hn => ?_
  have : u = 0 := by omega
  subst this
  rw [dec_one (by decide)] at h
  simp at h
theorem digit_word {c : UInt8} (h : digitB c = true) : wordB c = true := by unfold wordB; rw [h, Bool.or_true]
theorem digit_nl {c : UInt8} (h : digitB c = true) : letterB c = false := by
  unfold digitB at h
  unfold letterB
  simp only [Bool.and_eq_true, decide_eq_true_eq] at h
  simp
  omega
theorem itoa_nat {n : Int} (h : 0 ≤ n) : Lib.itoa n = Lib.decDigits n.toNat := by
  unfold Lib.itoa
  rw [if_neg (by omega)]
theorem num_tok {n : Int} (h0 : 0 ≤ n) (h1 : n ≤ 9223372036854775807) {r : List UInt8} (hr : endR r) : tokR (Lib.itoa n ++ r) = .ok (3, [], n, (Lib.itoa n).length) := by
  rw [itoa_nat h0]
  generalize hu : n.toNat = u
  have hn : n = (u : Int) := by omega
  have hall := dec_all u
  have hne := dec_ne u
  have hw := hr.word wordB (by decide) (by decide) (Lib.decDigits u) fun c hc => digit_word (hall c hc)
  have hd := hr.word digitB (by decide) (by decide) (Lib.decDigits u) hall
  have hp : parseM (Lib.decDigits u ++ r) = (u, (Lib.decDigits u).length, 0) := by
    unfold parseM
    rw [hd, dec_val]
    rw [if_neg (by simp [hne]), if_neg, if_pos (by omega)]
    rintro (h | ⟨h2, h3⟩)
    · exact hne h
    · rw [head_app hne] at h3
      exact dec_head u (dec_len1 u h2) h3
  have hnum : numR (Lib.decDigits u ++ r) = .ok (3, [], n, (Lib.decDigits u).length) := by
    unfold numR
    rw [hp, hw, if_neg (by simp), if_neg (by simp), hn]
  generalize hm : Lib.decDigits u = m at *
  cases m with
  | nil => exact absurd rfl hne
  | cons c m =>
    have hc := hall c (by simp)
    have e : tokR (c :: m ++ r) = if letterB c then wordR (c :: m ++ r) else if digitB c then numR (c :: m ++ r) else signR (c :: m ++ r) := rfl
    rw [e, digit_nl hc, hc, if_neg (by decide), if_pos rfl, hnum]

/-! ## names, signs -/
theorem word_tok {s r : List UInt8} (hn : nameM s = true) (hr : endR r) : tokR (s ++ r) = .ok (1, s, 0, s.length) := by
  unfold nameM at hn
  simp only [Bool.and_eq_true] at hn
  obtain ⟨⟨⟨h1, h2⟩, h3⟩, h4⟩ := hn
  obtain ⟨h1, h5⟩ := of_decide_eq_true h1
  have h3 := of_decide_eq_true h3
  have h4 : wordsL.contains s = false := by simpa using h4
  have hw := hr.word wordB (by decide) (by decide) s fun c hc => by rw [← h3] at hc; exact while_all c hc
  have hwr : wordR (s ++ r) = .ok (1, s, 0, s.length) := by
    unfold wordR
    rw [hw, if_neg (by omega), h4]
    rfl
  cases s with
  | nil => exact absurd rfl h1
  | cons c s =>
    have e : tokR (c :: s ++ r) = if letterB c then wordR (c :: s ++ r) else if digitB c then numR (c :: s ++ r) else signR (c :: s ++ r) := rfl
    have h2 : letterB c = true := h2
    rw [e, h2, if_pos rfl, hwr]
theorem op_tok {op : Nat} (h1 : 1 ≤ op) (h2 : op ≤ 13) (r : List UInt8) : tokR (opTx op ++ 32 :: r) = .ok (4, opTx op, 0, (opTx op).length) ∧ skN false (opTx op ++ 32 :: r) = 0 := by
  match op, h1, h2 with
  | 1, _, _ => exact ⟨rfl, rfl⟩
  | 2, _, _ => exact ⟨rfl, rfl⟩
  | 3, _, _ => exact ⟨rfl, rfl⟩
  | 4, _, _ => exact ⟨rfl, rfl⟩
  | 5, _, _ => exact ⟨rfl, rfl⟩
  | 6, _, _ => exact ⟨rfl, rfl⟩
  | 7, _, _ => exact ⟨rfl, rfl⟩
  | 8, _, _ => exact ⟨rfl, rfl⟩
  | 9, _, _ => exact ⟨rfl, rfl⟩
  | 10, _, _ => exact ⟨rfl, rfl⟩
  | 11, _, _ => exact ⟨rfl, rfl⟩
  | 12, _, _ => exact ⟨rfl, rfl⟩
  | 13, _, _ => exact ⟨rfl, rfl⟩
theorem tok_n {l : List UInt8} {i : Nat} {p r : List UInt8} {k : Int} {t : List UInt8} {n : Int} {ts : List Tk} (h : l.drop i = p ++ r) (hp : p ≠ []) (hb : skN false (p ++ r) = 0) (ht : tokR (p ++ r) = .ok (k, t, n, p.length)) (hr : toks l (i + p.length) = .ok ts) : toks l i = .ok (⟨k, t, n, (i : Nat)⟩ :: ts) := by
  have hpl := List.length_pos_iff.2 hp
  have hi : i < l.length := by
    have := congrArg List.length h
    rw [List.length_drop, List.length_append] at this
    omega
  rw [toks_step (by omega), h, hb, Nat.add_zero, if_neg (by omega), h, ht]
  dsimp only
  rw [hr]
theorem drop_app {l : List UInt8} {i : Nat} {p r : List UInt8} (h : l.drop i = p ++ r) : l.drop (i + p.length) = r := by
  rw [← List.drop_drop, h, List.drop_left]
theorem in_of {l : List UInt8} {i : Nat} {p r : List UInt8} (hi : i ≤ l.length) (h : l.drop i = p ++ r) : i + p.length ≤ l.length := by
  have := congrArg List.length h
  rw [List.length_drop, List.length_append] at this
  omega
/-- how texts of parts begin -/
theorem tx_head : ∀ (d : Nat) {x : Ex} (wr : Bool), shapeM d x = true → numOk d x → ∃ c t, txM d x wr = c :: t ∧ startB c = true
  | 0, x, wr, h, _ => by cases h
  | d + 1, x, true, h, _ => ⟨40, _, rfl, by decide⟩
  | d + 1, x, false, h, ⟨hn, hs⟩ => by
    rw [shapeM, Bool.and_eq_true] at h
    obtain ⟨hh, ha⟩ := h
    have e : txM (d + 1) x false = (
    if x.k = 1 then Lib.itoa x.n
    else if x.k = 2 then x.s
    else if x.k = 3 then [105, 110, 40] ++ x.s ++ [41]
    else if x.k = 4 then (match x.subs with
      | [y] => opTx x.op.toNat ++ txM d y (decide (levM y < 6))
      | _ => [])
    else (match x.subs with
      | [y, z] => txM d y (decide (levM y < levM x)) ++ ([32] ++ opTx x.op.toNat ++ [32]) ++ txM d z (decide (levM z ≤ levM x))
      | _ => [])) := rfl
    rw [e]
    by_cases k1 : x.k = 1
    · rw [if_pos k1]
      have h0 : 0 ≤ x.n := by
        rw [headM, if_pos k1] at hh
        have := (eqM_t hh).1
        split at this <;> omega
      rw [itoa_nat h0]
      cases hm : Lib.decDigits x.n.toNat with
      | nil => exact absurd hm (dec_ne _)
      | cons c m =>
        have := dec_all x.n.toNat c (by rw [hm]; simp)
        exact ⟨c, m, rfl, by unfold startB; rw [this]; simp⟩
    have name : nameM x.s = true → ∃ c t, x.s = c :: t ∧ startB c = true := fun hn => by
      unfold nameM at hn
      simp only [Bool.and_eq_true] at hn
      obtain ⟨⟨⟨h1, h2⟩, h3⟩, h4⟩ := hn
      cases hs : x.s with
      | nil => rw [hs] at h2; cases h2
      | cons c t =>
        rw [hs] at h2
        have h2 : letterB c = true := h2
        exact ⟨c, t, rfl, by unfold startB; rw [h2]; simp⟩
    by_cases k2 : x.k = 2
    · rw [if_neg k1, if_pos k2]
      exact name (head23 hh (.inl k2))
    by_cases k3 : x.k = 3
    · rw [if_neg k1, if_neg k2, if_pos k3]
      exact ⟨105, _, rfl, by decide⟩
    by_cases k4 : x.k = 4
    · obtain ⟨y, hy, ho⟩ := head4 hh k4
      rw [if_neg k1, if_neg k2, if_neg k3, if_pos k4, hy]
      rcases ho with ho | ho
      · rw [ho]; exact ⟨45, _, rfl, by decide⟩
      · rw [ho]; exact ⟨33, _, rfl, by decide⟩
    · obtain ⟨_, y, z, hy, _⟩ := head5 hh k1 k2 k3 k4
      rw [if_neg k1, if_neg k2, if_neg k3, if_neg k4, hy]
      rw [hy] at ha hs
      simp only [all1, Bool.and_true, Bool.and_eq_true] at ha
      obtain ⟨c, t, h1, h2⟩ := tx_head d (decide (levM y < levM x)) ha.1 (hs y (by simp))
      dsimp only
      rw [h1]
      exact ⟨c, _, rfl, h2⟩
theorem soft_start {r : List UInt8} (h : ∃ c t, r = c :: t ∧ startB c = true) : soft r := by
  obtain ⟨c, t, rfl, hs⟩ := h
  intro d hd
  simp only [List.head?_cons, Option.some.injEq] at hd
  subst hd
  exact ⟨(start_ok hs).2.2.1, (start_ok hs).2.2.2⟩
theorem endR.soft {r : List UInt8} (h : endR r) : soft r := fun d hd => by
  rcases h d hd with rfl | rfl <;> decide
theorem start_app {a b : List UInt8} (h : ∃ c t, a = c :: t ∧ startB c = true) : ∃ c t, a ++ b = c :: t ∧ startB c = true := by
  obtain ⟨c, t, rfl, hs⟩ := h
  exact ⟨c, t ++ b, rfl, hs⟩
theorem skip1 {l : List UInt8} {i : Nat} {r : List UInt8} (h : l.drop i = 32 :: r) (hr : skN false r = 0) : toks l i = toks l (i + 1) := by
  have hi : i ≤ l.length := by
    refine Decidable.byContradiction fun hn => ?_
    rw [List.drop_of_length_le (by omega)] at h
    cases h
  rw [toks_skip hi, h, skN, if_pos (by decide), hr]
theorem tx_toks {l : List UInt8} : ∀ (d : Nat) {x : Ex} (wr : Bool) (i : Nat) {r : List UInt8} {ts : List Tk}, shapeM d x = true → numOk d x → i ≤ l.length → l.drop i = txM d x wr ++ r → endR r → toks l (i + (txM d x wr).length) = .ok ts → ∃ us, toks l i = .ok (us ++ ts) ∧ us.map k3 = ptk d x wr
  | 0, x, wr, i, r, ts, h, _, _, _, _, _ => by cases h
  | d + 1, x, wr, i, r, ts, h, ⟨hn, hs⟩, hi, hl, hr, ht => by
    have hsh := h
    rw [shapeM, Bool.and_eq_true] at h
    obtain ⟨hh, ha⟩ := h
    -- without parentheses
    have core : ∀ (i : Nat) {r : List UInt8} {ts : List Tk}, i ≤ l.length → l.drop i = txM (d + 1) x false ++ r → endR r → toks l (i + (txM (d + 1) x false).length) = .ok ts → ∃ us, toks l i = .ok (us ++ ts) ∧ us.map k3 = ptk (d + 1) x false := by
      intro i r ts hi hl hr ht
      have e : txM (d + 1) x false = (
      if x.k = 1 then Lib.itoa x.n
      else if x.k = 2 then x.s
      else if x.k = 3 then [105, 110, 40] ++ x.s ++ [41]
      else if x.k = 4 then (match x.subs with
        | [y] => opTx x.op.toNat ++ txM d y (decide (levM y < 6))
        | _ => [])
      else (match x.subs with
        | [y, z] => txM d y (decide (levM y < levM x)) ++ ([32] ++ opTx x.op.toNat ++ [32]) ++ txM d z (decide (levM z ≤ levM x))
        | _ => [])) := rfl
      have e2 : ptk (d + 1) x false = (
      if x.k = 1 then [(3, [], x.n)]
      else if x.k = 2 then [(1, x.s, 0)]
      else if x.k = 3 then [(2, [105, 110], 0), (4, [40], 0), (1, x.s, 0), (4, [41], 0)]
      else if x.k = 4 then (match x.subs with
        | [y] => (4, opTx x.op.toNat, 0) :: ptk d y (decide (levM y < 6))
        | _ => [])
      else (match x.subs with
        | [y, z] => ptk d y (decide (levM y < levM x)) ++ (4, opTx x.op.toNat, 0) :: ptk d z (decide (levM z ≤ levM x))
        | _ => [])) ++ [] := rfl
      rw [List.append_nil] at e2
      obtain ⟨c0, t0, hc0, hst0⟩ := tx_head (d + 1) false hsh ⟨hn, hs⟩
      have hsk : skN false (txM (d + 1) x false ++ r) = 0 := by
        rw [hc0, List.cons_append]
        exact sk0 (start_ok hst0).1 (start_ok hst0).2.1
      have hne : txM (d + 1) x false ≠ [] := by rw [hc0]; simp
      by_cases k1 : x.k = 1
      · rw [if_pos k1] at e e2
        have h0 : 0 ≤ x.n := by
          rw [headM, if_pos k1] at hh
          have := (eqM_t hh).1
          split at this <;> omega
        rw [e2]
        exact ⟨[⟨3, [], x.n, (i : Nat)⟩], tok_n hl hne hsk (by rw [e]; exact num_tok h0 hn.2 hr) ht, rfl⟩
      by_cases k2 : x.k = 2
      · rw [if_neg k1, if_pos k2] at e e2
        rw [e2]
        exact ⟨[⟨1, x.s, 0, (i : Nat)⟩], tok_n hl hne hsk (by rw [e]; exact word_tok (head23 hh (.inl k2)) hr) ht, rfl⟩
      by_cases k3' : x.k = 3
      · rw [if_neg k1, if_neg k2, if_pos k3'] at e e2
        have hnm := head23 hh (.inr k3')
        obtain ⟨cs, tss, hcs, hsts⟩ : ∃ c t, x.s = c :: t ∧ startB c = true := by
          have hnm' := hnm
          unfold nameM at hnm'
          simp only [Bool.and_eq_true] at hnm'
          obtain ⟨⟨⟨_, h2⟩, _⟩, _⟩ := hnm'
          cases hs : x.s with
          | nil => rw [hs] at h2; cases h2
          | cons c t =>
            rw [hs] at h2
            have h2 : letterB c = true := h2
            exact ⟨c, t, rfl, by unfold startB; rw [h2]; simp⟩
        have a0 : l.drop i = [105, 110] ++ ([40] ++ (x.s ++ ([41] ++ r))) := by rw [hl, e]; simp
        have a1 := drop_app a0
        have a2 := drop_app a1
        have a3 := drop_app a2
        have len : (txM (d + 1) x false).length = 2 + 1 + x.s.length + 1 := by rw [e]; simp; omega
        have ht : toks l (i + ([105, 110] : List UInt8).length + ([40] : List UInt8).length + x.s.length + ([41] : List UInt8).length) = .ok ts := by
          rw [← ht, len]
          congr 1
          simp only [List.length_cons, List.length_nil]
          omega
        have b3 := tok_n (n := 0) a3 (by simp) (sk0 (by decide) (by decide)) (sign_tok (by decide) (by decide) (by decide) (sign2_soft (by decide) hr.soft)) ht
        have b2 := tok_n (n := 0) (k := 1) (t := x.s) a2 (by rw [hcs]; simp) (by rw [hcs, List.cons_append]; exact sk0 (start_ok hsts).1 (start_ok hsts).2.1) (word_tok hnm fun c hc => by simp only [List.singleton_append, List.head?_cons, Option.some.injEq] at hc; exact .inr hc.symm) b3
        have b1 := tok_n (n := 0) a1 (by simp) (sk0 (by decide) (by decide)) (sign_tok (by decide) (by decide) (by decide) (sign2_soft (by decide) (soft_start (start_app (a := x.s) (b := [41] ++ r) ⟨cs, tss, hcs, hsts⟩)))) b2
        have b0 := tok_n (n := 0) (k := 2) (t := [105, 110]) a0 (by simp) (sk0 (by decide) (by decide)) rfl b1
        rw [e2]
        exact ⟨[_, _, _, _], b0, rfl⟩
      by_cases k4 : x.k = 4
      · obtain ⟨y, hy, ho⟩ := head4 hh k4
        rw [if_neg k1, if_neg k2, if_neg k3', if_pos k4, hy] at e e2
        dsimp only at e e2
        rw [hy] at ha hs
        simp only [all1, Bool.and_true] at ha
        have hny := hs y (by simp)
        have hst := tx_head d (decide (levM y < 6)) ha hny
        have a0 : l.drop i = opTx x.op.toNat ++ (txM d y (decide (levM y < 6)) ++ r) := by rw [hl, e, List.append_assoc]
        have a1 := drop_app a0
        have ht : toks l (i + (opTx x.op.toNat).length + (txM d y (decide (levM y < 6))).length) = .ok ts := by
          rw [← ht, e, List.length_append, Nat.add_assoc]
        obtain ⟨us, u1, u2⟩ := tx_toks d (decide (levM y < 6)) _ ha hny (in_of hi a0) a1 hr ht
        have hop : tokR (opTx x.op.toNat ++ (txM d y (decide (levM y < 6)) ++ r)) = .ok (4, opTx x.op.toNat, 0, (opTx x.op.toNat).length) ∧ opTx x.op.toNat ≠ [] ∧ skN false (opTx x.op.toNat ++ (txM d y (decide (levM y < 6)) ++ r)) = 0 := by
          rcases ho with ho | ho
          · rw [ho]
            exact ⟨sign_tok (c := 45) (by decide) (by decide) (by decide) (sign2_soft (by decide) (soft_start (start_app (a := txM d y (decide (levM y < 6))) (b := r) hst))), by decide, sk0 (by decide) (by decide)⟩
          · rw [ho]
            exact ⟨sign_tok (c := 33) (by decide) (by decide) (by decide) (sign2_soft (by decide) (soft_start (start_app (a := txM d y (decide (levM y < 6))) (b := r) hst))), by decide, sk0 (by decide) (by decide)⟩
        rw [e2]
        exact ⟨⟨4, opTx x.op.toNat, 0, (i : Nat)⟩ :: us, tok_n a0 hop.2.1 hop.2.2 hop.1 u1, by rw [List.map_cons, u2]; rfl⟩
      · obtain ⟨_, y, z, hy, ho1, ho2⟩ := head5 hh k1 k2 k3' k4
        rw [if_neg k1, if_neg k2, if_neg k3', if_neg k4, hy] at e e2
        dsimp only at e e2
        rw [hy] at ha hs
        simp only [all1, Bool.and_true, Bool.and_eq_true] at ha
        have hny := hs y (by simp)
        have hnz := hs z (by simp)
        obtain ⟨cz, tz, hz1, hz2⟩ := tx_head d (decide (levM z ≤ levM x)) ha.2 hnz
        have hzs : skN false (txM d z (decide (levM z ≤ levM x)) ++ r) = 0 := by
          rw [hz1, List.cons_append]
          exact sk0 (start_ok hz2).1 (start_ok hz2).2.1
        have hop := op_tok (op := x.op.toNat) (by omega) (by omega) (txM d z (decide (levM z ≤ levM x)) ++ r)
        have hopn : opTx x.op.toNat ≠ [] := by
          have : ∀ q, q < 14 → 1 ≤ q → opTx q ≠ [] := by decide
          exact this _ (by omega) (by omega)
        have a0 : l.drop i = txM d y (decide (levM y < levM x)) ++ ([32] ++ (opTx x.op.toNat ++ ([32] ++ (txM d z (decide (levM z ≤ levM x)) ++ r)))) := by rw [hl, e]; simp only [List.append_assoc]
        have a1 := drop_app a0
        have a2 := drop_app a1
        have a3 := drop_app a2
        have a4 := drop_app a3
        have i1 := in_of hi a0
        have i2 := in_of i1 a1
        have i3 := in_of i2 a2
        have i4 := in_of i3 a3
        have ht : toks l (i + (txM d y (decide (levM y < levM x))).length + ([32] : List UInt8).length + (opTx x.op.toNat).length + ([32] : List UInt8).length + (txM d z (decide (levM z ≤ levM x))).length) = .ok ts := by
          rw [← ht, e]
          congr 1
          simp only [List.length_append, List.length_cons, List.length_nil]
          omega
        obtain ⟨vs, v1, v2⟩ := tx_toks d (decide (levM z ≤ levM x)) _ ha.2 hnz i4 a4 hr ht
        have b3 : toks l (i + (txM d y (decide (levM y < levM x))).length + ([32] : List UInt8).length + (opTx x.op.toNat).length) = .ok (vs ++ ts) := by
          exact (skip1 a3 hzs).trans v1
        have b2 := tok_n a2 hopn hop.2 hop.1 b3
        have b1 := (skip1 a1 hop.2).trans b2
        obtain ⟨us, u1, u2⟩ := tx_toks d (decide (levM y < levM x)) i ha.1 hny hi a0 (fun c hc => by simp only [List.singleton_append, List.head?_cons, Option.some.injEq] at hc; exact .inl hc.symm) b1
        rw [e2]
        exact ⟨us ++ ⟨4, opTx x.op.toNat, 0, _⟩ :: vs, by rw [u1, List.append_assoc]; rfl, by rw [List.map_append, List.map_cons, u2, v2]; rfl⟩
    cases wr with
    | false => exact core i hi hl hr ht
    | true =>
      have e : txM (d + 1) x true = [40] ++ (txM (d + 1) x false ++ [41]) := by
        unfold txM
        simp [clo, opn]
      have e2 : ptk (d + 1) x true = (4, [40], 0) :: (ptk (d + 1) x false ++ [(4, [41], 0)]) := by
        unfold ptk
        simp [opk, clk]
      have hst := tx_head (d + 1) false hsh ⟨hn, hs⟩
      have a0 : l.drop i = [40] ++ (txM (d + 1) x false ++ ([41] ++ r)) := by rw [hl, e]; simp only [List.append_assoc]
      have a1 := drop_app a0
      have a2 := drop_app a1
      have ht : toks l (i + ([40] : List UInt8).length + (txM (d + 1) x false).length + ([41] : List UInt8).length) = .ok ts := by
        rw [← ht, e]
        congr 1
        simp only [List.length_append, List.length_cons, List.length_nil]
        omega
      have b2 := tok_n (n := 0) a2 (by simp) (sk0 (by decide) (by decide)) (sign_tok (by decide) (by decide) (by decide) (sign2_soft (by decide) hr.soft)) ht
      obtain ⟨us, u1, u2⟩ := core _ (in_of hi a0) a1 (fun c hc => by simp only [List.singleton_append, List.head?_cons, Option.some.injEq] at hc; exact .inr hc.symm) b2
      have b0 := tok_n (n := 0) a0 (by simp) (sk0 (by decide) (by decide)) (sign_tok (by decide) (by decide) (by decide) (sign2_soft (by decide) (soft_start (start_app (a := txM (d + 1) x false) (b := [41] ++ r) hst)))) u1
      rw [e2]
      refine ⟨⟨4, [40], 0, (i : Nat)⟩ :: (us ++ [⟨4, [41], 0, ((i + ([40] : List UInt8).length + (txM (d + 1) x false).length : Nat) : Int)⟩]), by rw [b0]; simp only [List.cons_append, List.append_assoc, List.nil_append, List.singleton_append], ?_⟩
      rw [List.map_cons, List.map_append, u2]
      rfl
end Go.Proofs.YtdlcmgbidoabmaaDoor.Con
