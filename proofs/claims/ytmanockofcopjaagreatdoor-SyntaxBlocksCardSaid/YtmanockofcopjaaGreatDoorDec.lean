/-
  Own work: numbers as digits, and how they are read; a token at a place. No program in sight.
-/
import Derived.Test.YtmanockofcopjaaGreatDoorMod
namespace Go.Proofs.YtmanockofcopjaaGreatDoor.Con
open Go Go.RowKit Go.Kt Go.Kt.V
set_option linter.unusedSimpArgs false
set_option linter.unusedVariables false
set_option maxHeartbeats 4000000

abbrev K3 := Int × List UInt8 × Int
def k3 (t : Tk) : K3 := (t.k, t.t, t.n)
theorem u8_all {p : UInt8 → Prop} (h : ∀ n : Fin 256, p (UInt8.ofNat n.val)) (c : UInt8) : p c := by
  have := h ⟨c.toNat, c.toNat_lt⟩
  simpa using this
theorem while_app {p : UInt8 → Bool} {r : List UInt8} (hr : ∀ c, r.head? = some c → p c = false) : ∀ (l : List UInt8), (∀ c, c ∈ l → p c = true) → (l ++ r).takeWhile p = l
  | [], _ => by
    cases r with
    | nil => rfl
    | cons c r => rw [List.nil_append, List.takeWhile_cons, if_neg (by rw [hr c rfl]; decide)]
  | c :: l, hl => by rw [List.cons_append, List.takeWhile_cons, if_pos (hl c (by simp)), while_app hr l fun x hx => hl x (by simp [hx])]
theorem head_app {a b : List UInt8} (h : a ≠ []) : (a ++ b).head? = a.head? := by
  cases a with
  | nil => exact absurd rfl h
  | cons c a => rfl

theorem dec_one {u : Nat} (h : u < 10) : Lib.decDigits u = [UInt8.ofNat (48 + u)] := by rw [Lib.decDigits, dif_pos h]
theorem dec_more {u : Nat} (h : ¬ u < 10) : Lib.decDigits u = Lib.decDigits (u / 10) ++ [UInt8.ofNat (48 + u % 10)] := by rw [Lib.decDigits, dif_neg h]
theorem dig_nat {u : Nat} (h : u < 10) : (UInt8.ofNat (48 + u)).toNat = 48 + u := by
  rw [UInt8.toNat_ofNat']
  omega
theorem dig_b {u : Nat} (h : u < 10) : digitB (UInt8.ofNat (48 + u)) = true := by
  unfold digitB
  rw [dig_nat h]
  simp
  omega
theorem dec_all (u : Nat) : ∀ c, c ∈ Lib.decDigits u → digitB c = true := by
  induction u using Nat.strongRecOn with
  | _ u ih =>
    intro c hc
    by_cases h : u < 10
    · rw [dec_one h, List.mem_singleton] at hc
      subst hc
      exact dig_b h
    · rw [dec_more h, List.mem_append, List.mem_singleton] at hc
      rcases hc with hc | rfl
      · exact ih (u / 10) (by omega) c hc
      · exact dig_b (Nat.mod_lt _ (by decide))
theorem dec_ne (u : Nat) : Lib.decDigits u ≠ [] := by
  by_cases h : u < 10
  · rw [dec_one h]; simp
  · rw [dec_more h]; simp
theorem decV_snoc1 (a : Nat) (l : List UInt8) (c : UInt8) : decV a (l ++ [c]) = decV a l * 10 + (c.toNat - 48) := by
  simp [decV, List.foldl_append]
theorem dec_val (u : Nat) : decV 0 (Lib.decDigits u) = u := by
  induction u using Nat.strongRecOn with
  | _ u ih =>
    by_cases h : u < 10
    · rw [dec_one h]
      have := dig_nat h
      simp only [decV, List.foldl_cons, List.foldl_nil]
      omega
    · rw [dec_more h, decV_snoc1, ih (u / 10) (by omega), dig_nat (Nat.mod_lt _ (by decide))]
      omega
theorem dec_head (u : Nat) (h0 : 0 < u) : (Lib.decDigits u).head? ≠ some 48 := by
  induction u using Nat.strongRecOn with
  | _ u ih =>
    by_cases h : u < 10
    · rw [dec_one h, List.head?_cons]
      intro e
      injection e with e
      have := congrArg UInt8.toNat e
      rw [dig_nat h] at this
      have h48 : (48 : UInt8).toNat = 48 := rfl
      omega
    · rw [dec_more h, head_app (dec_ne _)]
      exact ih (u / 10) (by omega) (by omega)
theorem dec_len1 (u : Nat) (h : 1 < (Lib.decDigits u).length) : 0 < u := by
  refine Decidable.byContradiction fun hn => ?_
  have : u = 0 := by omega
  subst this
  rw [dec_one (by decide)] at h
  simp at h
theorem digit_word {c : UInt8} (h : digitB c = true) : wordB c = true := by unfold wordB; rw [h, Bool.or_true]
theorem digit_nl {c : UInt8} (h : digitB c = true) : letterB c = false := by
  unfold digitB at h
  unfold letterB
  simp only [Bool.and_eq_true, decide_eq_true_eq] at h
  simp
  omega
theorem itoa_nat {n : Int} (h : 0 ≤ n) : Lib.itoa n = Lib.decDigits n.toNat := by
  unfold Lib.itoa
  rw [if_neg (by omega)]
theorem num_tok' {n : Int} (h0 : 0 ≤ n) (h1 : n ≤ 9223372036854775807) {r : List UInt8} (hr : ∀ c, r.head? = some c → wordB c = false) : tokR (Lib.itoa n ++ r) = .ok (3, [], n, (Lib.itoa n).length) := by
  rw [itoa_nat h0]
  generalize hu : n.toNat = u
  have hn : n = (u : Int) := by omega
  have hall := dec_all u
  have hne := dec_ne u
  have hw := while_app (p := wordB) hr (Lib.decDigits u) fun c hc => digit_word (hall c hc)
  have hd := while_app (p := digitB) (fun c h => by
    have := hr c h
    unfold wordB at this
    exact (Bool.or_eq_false_iff.1 this).2) (Lib.decDigits u) hall
  have hp : parseM (Lib.decDigits u ++ r) = (u, (Lib.decDigits u).length, 0) := by
    unfold parseM
    rw [hd, dec_val]
    rw [if_neg (by simp [hne]), if_neg, if_pos (by omega)]
    rintro (h | ⟨h2, h3⟩)
    · exact hne h
    · rw [head_app hne] at h3
      exact dec_head u (dec_len1 u h2) h3
  have hnum : numR (Lib.decDigits u ++ r) = .ok (3, [], n, (Lib.decDigits u).length) := by
    unfold numR
    rw [hp, hw, if_neg (by simp), if_neg (by simp), hn]
  generalize hm : Lib.decDigits u = m at *
  cases m with
  | nil => exact absurd rfl hne
  | cons c m =>
    have hc := hall c (by simp)
    have e : tokR (c :: m ++ r) = if letterB c then wordR (c :: m ++ r) else if digitB c then numR (c :: m ++ r) else signR (c :: m ++ r) := rfl
    rw [e, digit_nl hc, hc, if_neg (by decide), if_pos rfl, hnum]
theorem tok_n {l : List UInt8} {i : Nat} {p r : List UInt8} {k : Int} {t : List UInt8} {n : Int} {ts : List Tk} (h : l.drop i = p ++ r) (hp : p ≠ []) (hb : skN false (p ++ r) = 0) (ht : tokR (p ++ r) = .ok (k, t, n, p.length)) (hr : toks l (i + p.length) = .ok ts) : toks l i = .ok (⟨k, t, n, (i : Nat)⟩ :: ts) := by
  have hpl := List.length_pos_iff.2 hp
  have hi : i < l.length := by
    have := congrArg List.length h
    rw [List.length_drop, List.length_append] at this
    omega
  rw [toks_step (by omega), h, hb, Nat.add_zero, if_neg (by omega), h, ht]
  dsimp only
  rw [hr]
theorem drop_app {l : List UInt8} {i : Nat} {p r : List UInt8} (h : l.drop i = p ++ r) : l.drop (i + p.length) = r := by
  rw [← List.drop_drop, h, List.drop_left]
theorem in_of {l : List UInt8} {i : Nat} {p r : List UInt8} (hi : i ≤ l.length) (h : l.drop i = p ++ r) : i + p.length ≤ l.length := by
  have := congrArg List.length h
  rw [List.length_drop, List.length_append] at this
  omega
end Go.Proofs.YtmanockofcopjaaGreatDoor.Con
