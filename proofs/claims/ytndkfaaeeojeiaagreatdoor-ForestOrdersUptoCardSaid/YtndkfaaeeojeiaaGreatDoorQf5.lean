import Derived.Test.YtndkfaaeeojeiaaGreatDoorQf4
set_option linter.unusedSectionVars false
namespace Go.Proofs.YtndkfaaeeojeiaaGreatDoor.Con
set_option linter.unusedSimpArgs false
set_option linter.unusedVariables false
structure Spo where
 k : Int
 nm : List UInt8
 pa : Int
 dp : Int
 en : Int
mutual
def flN (a : Nat) (pa dp : Int) : Nd -> List Spo
 | .mk b l => ⟨b.k, b.nm, pa, dp, ((a + 1 + nNds l : Nat) : Int)⟩ :: flL (a + 1) a (dp + 1) l
def flL (a : Nat) (pa dp : Int) : List Nd -> List Spo
 | [] => []
 | x :: l => flN a pa dp x ++ flL (a + nNd x) pa dp l
end
mutual
theorem flN_len (a : Nat) (pa dp : Int) : ∀ x, (flN a pa dp x).length = nNd x
 | .mk b l => by rw [flN, nNd, List.length_cons, flL_len]
theorem flL_len (a : Nat) (pa dp : Int) : ∀ l, (flL a pa dp l).length = nNds l
 | [] => by rw [flL, nNds]; rfl
 | x :: l => by rw [flL, nNds, List.length_append, flN_len, flL_len]
end
theorem flL_app (pa dp : Int) : ∀ (l m : List Nd) (a : Nat), flL a pa dp (l ++ m) = flL a pa dp l ++ flL (a + nNds l) pa dp m
 | [], m, a => by rw [List.nil_append, flL, List.nil_append, nNds, Nat.add_zero]
 | x :: l, m, a => by rw [List.cons_append, flL, flL, flL_app pa dp l m, nNds, List.append_assoc, Nat.add_assoc]
theorem nNd_pos : ∀ x, 1 <= nNd x
 | .mk b l => by rw [nNd]; omega
theorem nNds_take {y : Nd} : ∀ {l : List Nd} {j : Nat}, l[j]? = some y -> nNds (l.take j) + nNd y <= nNds l
 | [], _, h => by simp at h
 | x :: l, 0, h => by
  rw [List.getElem?_cons_zero, Option.some.injEq] at h
  subst h
  rw [List.take_zero, nNds, nNds]
  omega
 | x :: l, j + 1, h => by
  have := nNds_take (l := l) (j := j) (by rwa [List.getElem?_cons_succ] at h)
  rw [List.take_succ_cons, nNds, nNds]
  omega
theorem nNds_len : ∀ l : List Nd, l.length <= nNds l
 | [] => Nat.zero_le _
 | a :: l => by
  have := nNds_len l
  have := nNd_pos a
  rw [nNds, List.length_cons]
  omega
def PaIn (L : List Spo) (a i : Nat) (s : Spo) : Prop := ∃ p t, p < i /\ L[p]? = some t /\ s.pa = ((a + p : Nat) : Int) /\ s.dp = t.dp + 1 /\ ((a + i : Nat) : Int) < t.en /\ s.en <= t.en /\ ∀ j u, p < j -> j < i -> L[j]? = some u -> u.en <= ((a + i : Nat) : Int)
theorem PaIn.app {L M : List Spo} {a i : Nat} {s : Spo} (h : PaIn L a i s) (hi : i < L.length) : PaIn (L ++ M) a i s := by
 obtain ⟨p, t, h1, h2, h3, h4, h5, h6, h7⟩ := h
 refine ⟨p, t, h1, ?_, h3, h4, h5, h6, fun j u g1 g2 g3 => h7 j u g1 g2 ?_⟩
 · rw [List.getElem?_append_left (by omega)]; exact h2
 · rwa [List.getElem?_append_left (by omega)] at g3
theorem PaIn.shift {L M : List Spo} {a i : Nat} {s : Spo} (h : PaIn M (a + L.length) i s) : PaIn (L ++ M) a (L.length + i) s := by
 obtain ⟨p, t, h1, h2, h3, h4, h5, h6, h7⟩ := h
 refine ⟨L.length + p, t, by omega, ?_, by rw [h3]; omega, h4, by omega, h6, fun j u g1 g2 g3 => ?_⟩
 · rw [List.getElem?_append_right (by omega), Nat.add_sub_cancel_left]; exact h2
 · rw [List.getElem?_append_right (by omega)] at g3
   have := h7 (j - L.length) u (by omega) (by omega) g3
   omega
mutual
theorem flN_in (a : Nat) (pa dp : Int) : ∀ (x : Nd) (i : Nat) (s : Spo), (flN a pa dp x)[i]? = some s -> ((a + i : Nat) : Int) < s.en /\ s.en <= ((a + nNd x : Nat) : Int) /\ (i = 0 -> s.pa = pa /\ s.dp = dp /\ s.en = ((a + nNd x : Nat) : Int)) /\ (0 < i -> PaIn (flN a pa dp x) a i s)
 | .mk b l, i, s, h => by
  rw [flN] at h ⊢
  rw [nNd]
  cases i with
  | zero =>
   rw [List.getElem?_cons_zero, Option.some.injEq] at h
   subst h
   dsimp only
   exact ⟨by omega, by omega, fun _ => ⟨rfl, rfl, by omega⟩, fun h => by omega⟩
  | succ i =>
   rw [List.getElem?_cons_succ] at h
   obtain ⟨h1, h2, h3⟩ := flL_in (a + 1) a (dp + 1) l i s h
   refine ⟨by omega, by omega, fun h => by omega, fun _ => ?_⟩
   rcases h3 with ⟨g1, g2, g3⟩ | g
   · refine ⟨0, _, by omega, List.getElem?_cons_zero, by rw [g1, Nat.add_zero], g2, by dsimp only; omega, by dsimp only; omega, fun j u k1 k2 k3 => ?_⟩
     cases j with
     | zero => omega
     | succ j =>
      rw [List.getElem?_cons_succ] at k3
      have := g3 j u (by omega) k3
      omega
   · have := PaIn.shift (L := [⟨b.k, b.nm, pa, dp, ((a + 1 + nNds l : Nat) : Int)⟩]) (M := flL (a + 1) a (dp + 1) l) (a := a) (i := i) (s := s) g
     rw [List.length_singleton, Nat.add_comm 1 i] at this
     exact this
theorem flL_in (a : Nat) (pa dp : Int) : ∀ (l : List Nd) (i : Nat) (s : Spo), (flL a pa dp l)[i]? = some s -> ((a + i : Nat) : Int) < s.en /\ s.en <= ((a + nNds l : Nat) : Int) /\
  ((s.pa = pa /\ s.dp = dp /\ ∀ j u, j < i -> (flL a pa dp l)[j]? = some u -> u.en <= ((a + i : Nat) : Int)) ∨ PaIn (flL a pa dp l) a i s)
 | [], i, s, h => by rw [flL] at h; simp at h
 | x :: l, i, s, h => by
  rw [flL] at h ⊢
  rw [nNds]
  have hl := flN_len a pa dp x
  by_cases hi : i < nNd x
  · rw [List.getElem?_append_left (by omega)] at h
    obtain ⟨h1, h2, h3, h4⟩ := flN_in a pa dp x i s h
    refine ⟨h1, by omega, ?_⟩
    by_cases h0 : i = 0
    · obtain ⟨g1, g2, g3⟩ := h3 h0
      exact .inl ⟨g1, g2, fun j u hj => by omega⟩
    · exact .inr ((h4 (by omega)).app (by omega))
  · rw [List.getElem?_append_right (by omega), hl] at h
    obtain ⟨h1, h2, h3⟩ := flL_in (a + nNd x) pa dp l (i - nNd x) s h
    refine ⟨by omega, by omega, ?_⟩
    rcases h3 with ⟨g1, g2, g3⟩ | g
    · refine .inl ⟨g1, g2, fun j u hj hu => ?_⟩
      by_cases hj' : j < nNd x
      · rw [List.getElem?_append_left (by omega)] at hu
        have := (flN_in a pa dp x j u hu).2.1
        omega
      · rw [List.getElem?_append_right (by omega), hl] at hu
        have := g3 (j - nNd x) u (by omega) hu
        omega
    · refine .inr ?_
      rw [<- hl] at g
      have := PaIn.shift (L := flN a pa dp x) g
      rw [hl] at this
      rwa [show nNd x + (i - nNd x) = i by omega] at this
end
structure Fo (xs : List Spo) : Prop where
 ne : 0 < xs.length
 rt : ∀ s : Spo, xs[0]? = some s -> s.pa = -1 /\ s.dp = 0 /\ s.en = (xs.length : Int)
 up : ∀ (i : Nat) (s : Spo), xs[i]? = some s -> (i : Int) < s.en /\ s.en <= (xs.length : Int)
 pa : ∀ (i : Nat) (s : Spo), 0 < i -> xs[i]? = some s -> PaIn xs 0 i s
def flatC (c : Ch) : List Spo := flN 0 (-1) 0 c.root
theorem fo_flat (c : Ch) : Fo (flatC c) := by
 unfold flatC
 have hl := flN_len 0 (-1) 0 c.root
 have h := flN_in 0 (-1) 0 c.root
 refine ⟨by have := nNd_pos c.root; omega, fun s hs => ?_, fun i s hs => ?_, fun i s hi hs => (h i s hs).2.2.2 hi⟩
 · obtain ⟨h1, h2, h3⟩ := (h 0 s hs).2.2.1 rfl
   exact ⟨h1, h2, by rw [h3, hl]; omega⟩
 · obtain ⟨h1, h2, _⟩ := h i s hs
   exact ⟨by omega, by omega⟩
section
variable {xs : List Spo} (F : Fo xs) {i j k p : Nat} {s t u : Spo}
include F
theorem Fo.lam : ∀ (k : Nat) {i : Nat} {s t : Spo}, xs[i]? = some s -> xs[k]? = some t -> i < k -> (k : Int) < s.en -> t.en <= s.en
 | k, i, s, t, hi, hk, hlt, hs => by
  obtain ⟨p, v, h1, h2, h3, h4, h5, h6, h7⟩ := F.pa k t (by omega) hk
  by_cases hp : p < i
  · have := h7 i s hp hlt hi
    omega
  · by_cases he : p = i
    · subst he
      rw [hi, Option.some.injEq] at h2
      subst h2
      exact h6
    · have := Fo.lam p hi h2 (by omega) (by omega)
      omega
theorem Fo.par (hk : xs[k]? = some t) (h0 : 0 < k) : ∃ (p : Nat) (s : Spo), p < k /\ t.pa = (p : Int) /\ xs[p]? = some s /\ t.dp = s.dp + 1 /\ (k : Int) < s.en /\ ∀ (i : Nat) (u : Spo), xs[i]? = some u -> i < k -> (k : Int) < u.en -> i <= p := by
 obtain ⟨p, v, h1, h2, h3, h4, h5, h6, h7⟩ := F.pa k t h0 hk
 refine ⟨p, v, h1, by rw [h3]; omega, h2, h4, by omega, fun i u hu hi hk' => ?_⟩
 by_cases hp : p < i
 · have := h7 i u hp hi hu; omega
 · omega
omit F in
theorem get_lt {xs : List Spo} {i : Nat} {s : Spo} (h : xs[i]? = some s) : i < xs.length := (List.getElem?_eq_some_iff.1 h).1
omit F in
theorem get_at {xs : List Spo} {i : Nat} (h : i < xs.length) : ∃ s, xs[i]? = some s := ⟨_, List.getElem?_eq_getElem h⟩
end
def Cov (xs : List Spo) (b a : Nat) : Prop := ∃ s, xs[b]? = some s /\ b <= a /\ (a : Int) < s.en
section
variable {xs : List Spo} (F : Fo xs) {i j k p : Nat}
include F
theorem Fo.cov_lt (h : Cov xs i j) : j < xs.length := by
 obtain ⟨s, h1, h2, h3⟩ := h
 have := (F.up i s h1).2
 omega
theorem Fo.cov_self (h : i < xs.length) : Cov xs i i := by
 obtain ⟨s, hs⟩ := get_at h
 exact ⟨s, hs, Nat.le_refl _, (F.up i s hs).1⟩
theorem Fo.cov_root (h : i < xs.length) : Cov xs 0 i := by
 obtain ⟨s, hs⟩ := get_at F.ne
 exact ⟨s, hs, Nat.zero_le _, by rw [(F.rt s hs).2.2]; omega⟩
theorem Fo.cov_tr (h : Cov xs i j) (g : Cov xs j k) : Cov xs i k := by
 obtain ⟨s, h1, h2, h3⟩ := h
 obtain ⟨t, g1, g2, g3⟩ := g
 refine ⟨s, h1, by omega, ?_⟩
 by_cases he : i = j
 · subst he
   rw [h1, Option.some.injEq] at g1
   subst g1
   exact g3
 · have := F.lam j h1 g1 (by omega) h3
   omega
theorem Fo.cov_in (h : Cov xs i k) (g : Cov xs j k) (hij : i <= j) : Cov xs i j := by
 obtain ⟨s, h1, h2, h3⟩ := h
 obtain ⟨t, g1, g2, g3⟩ := g
 exact ⟨s, h1, hij, by omega⟩
end
inductive Ups (xs : List Spo) : Int -> List Int -> Prop
 | stop {i : Int} : i < 0 -> Ups xs i []
 | go {i : Nat} {s : Spo} {l : List Int} : xs[i]? = some s -> Ups xs s.pa l -> Ups xs i ((i : Int) :: l)
theorem Ups.inv {xs : List Spo} {p : Nat} {l : List Int} (h : Ups xs (p : Int) l) : ∃ s l', xs[p]? = some s /\ l = (p : Int) :: l' /\ Ups xs s.pa l' := by
 generalize hi : (p : Int) = i at h
 cases h with
 | stop h => omega
 | @go q s l' hs hu =>
  have : p = q := by omega
  subst this
  exact ⟨s, l', hs, rfl, hu⟩
theorem Fo.ups_mem {xs : List Spo} (F : Fo xs) : ∀ (k : Nat) {t : Spo} {l : List Int}, xs[k]? = some t -> Ups xs t.pa l -> ∀ b : Int, b ∈ l ↔ ∃ i : Nat, b = i /\ i < k /\ Cov xs i k
 | k, t, l, h, hu, b => by
  by_cases h0 : 0 < k
  · obtain ⟨p, s, h1, h2, h3, h4, h5, h6⟩ := F.par h h0
    rw [h2] at hu
    obtain ⟨s', l', hs', rfl, hu'⟩ := hu.inv
    · rw [h3, Option.some.injEq] at hs'
      subst hs'
      rw [List.mem_cons, Fo.ups_mem F p h3 hu' b]
      constructor
      · rintro (rfl | ⟨i, rfl, g1, g2⟩)
        · exact ⟨p, rfl, h1, s, h3, by omega, h5⟩
        · exact ⟨i, rfl, by omega, F.cov_tr g2 ⟨s, h3, by omega, h5⟩⟩
      · rintro ⟨i, rfl, g1, u, g2, g3, g4⟩
        have := h6 i u g2 g1 g4
        by_cases he : i = p
        · exact .inl (by rw [he])
        · exact .inr ⟨i, rfl, by omega, u, g2, by omega, by omega⟩
  · have : k = 0 := by omega
    subst this
    rw [(F.rt t h).1] at hu
    cases hu with
    | stop hn => exact ⟨fun h => by simp at h, fun ⟨i, _, h, _⟩ => by omega⟩
def Top (xs : List Spo) (l : List Int) (r : Int) : Prop := ∃ m : Nat, r = m /\ (∀ n : Int, n ∈ l -> ∃ k : Nat, n = k /\ Cov xs m k) /\ ∀ j : Nat, (∀ n : Int, n ∈ l -> ∃ k : Nat, n = k /\ Cov xs j k) -> j <= m
def Has (xs : List Spo) (n : Int) : Prop := 0 <= n /\ n < xs.length
def Mt (xs : List Spo) (l : List Int) (r : Int) : Prop := ((l = [] ∨ ∃ n, n ∈ l /\ ¬ Has xs n) /\ r = -1) ∨ ((l ≠ [] /\ ∀ n, n ∈ l -> Has xs n) /\ Top xs l r)
theorem Mt.bad {xs : List Spo} {l : List Int} {r : Int} (h : Mt xs l r) (hb : l = [] ∨ ∃ n, n ∈ l /\ ¬ Has xs n) : r = -1 := by
 rcases h with ⟨_, h⟩ | ⟨⟨h1, h2⟩, _⟩
 · exact h
 · rcases hb with hb | ⟨n, hn, hh⟩
   · exact absurd hb h1
   · exact absurd (h2 n hn) hh
theorem Mt.good {xs : List Spo} {l : List Int} {r : Int} (h : Mt xs l r) (h1 : l ≠ []) (h2 : ∀ n, n ∈ l -> Has xs n) : Top xs l r := by
 rcases h with ⟨hb | ⟨n, hn, hh⟩, _⟩ | ⟨_, h⟩
 · exact absurd hb h1
 · exact absurd (h2 n hn) hh
 · exact h
theorem Top.uniq {xs : List Spo} {l m : List Int} {r q : Int} (h : Top xs l r) (g : Top xs m q) (he : ∀ n, n ∈ l ↔ n ∈ m) : r = q := by
 obtain ⟨a, rfl, h1, h2⟩ := h
 obtain ⟨b, rfl, g1, g2⟩ := g
 have e1 := g2 a fun n hn => h1 n ((he n).2 hn)
 have e2 := h2 b fun n hn => g1 n ((he n).1 hn)
 omega
theorem Mt.uniq {xs : List Spo} {l m : List Int} {r q : Int} (h : Mt xs l r) (g : Mt xs m q) (he : ∀ n, n ∈ l ↔ n ∈ m) : r = q := by
 rcases h with ⟨hb, rfl⟩ | ⟨⟨h1, h2⟩, h3⟩
 · refine (g.bad ?_).symm
   rcases hb with rfl | ⟨n, hn, hh⟩
   · exact .inl (List.eq_nil_iff_forall_not_mem.2 fun n hn => by simpa using (he n).2 hn)
   · exact .inr ⟨n, (he n).1 hn, hh⟩
 · refine h3.uniq (g.good (fun e => ?_) fun n hn => h2 n ((he n).2 hn)) he
   subst e
   exact h1 (List.eq_nil_iff_forall_not_mem.2 fun n hn => by simpa using (he n).1 hn)
theorem Mt.neg {xs : List Spo} {l : List Int} {r : Int} (h : Mt xs l r) : r < 0 ↔ (l = [] ∨ ∃ n, n ∈ l /\ ¬ Has xs n) := by
 refine ⟨fun hr => ?_, fun hb => by rw [h.bad hb]; omega⟩
 rcases h with ⟨hb, _⟩ | ⟨_, m, rfl, _⟩
 · exact hb
 · omega
theorem Fo.mt_two {xs : List Spo} (F : Fo xs) {a b d m ab q : Int} (h : Mt xs [a, b, d] m) (g : Mt xs [a, b] ab) (k : Mt xs [ab, d] q) (h0 : 0 <= ab) : m = q := by
 have hg : ∀ n, n ∈ [a, b] -> Has xs n := fun n hn => Classical.byContradiction fun hh => by have := g.neg.2 (.inr ⟨n, hn, hh⟩); omega
 obtain ⟨c, rfl, g1, g2⟩ := g.good (by simp) hg
 obtain ⟨ka, rfl, ca⟩ := g1 a (by simp)
 obtain ⟨kb, rfl, cb⟩ := g1 b (by simp)
 have hc : Has xs (c : Int) := by obtain ⟨s, e, _⟩ := ca; have := get_lt e; exact ⟨by omega, by omega⟩
 by_cases hd : Has xs d
 · obtain ⟨mm, rfl, m1, m2⟩ := h.good (by simp) fun n hn => by
    simp only [List.mem_cons, List.not_mem_nil, or_false] at hn
    rcases hn with rfl | rfl | rfl
    · exact hg _ (by simp)
    · exact hg _ (by simp)
    · exact hd
   obtain ⟨qq, rfl, q1, q2⟩ := k.good (by simp) fun n hn => by
    simp only [List.mem_cons, List.not_mem_nil, or_false] at hn
    rcases hn with rfl | rfl
    · exact hc
    · exact hd
   obtain ⟨c', e, q3⟩ := q1 c (by simp)
   have : c' = c := by omega
   subst this
   obtain ⟨kd, rfl, q4⟩ := q1 d (by simp)
   have e1 : qq <= mm := m2 qq fun n hn => by
    simp only [List.mem_cons, List.not_mem_nil, or_false] at hn
    rcases hn with rfl | rfl | rfl
    · exact ⟨ka, rfl, F.cov_tr q3 ca⟩
    · exact ⟨kb, rfl, F.cov_tr q3 cb⟩
    · exact ⟨kd, rfl, q4⟩
   have e2 : mm <= qq := by
    refine q2 mm fun n hn => ?_
    simp only [List.mem_cons, List.not_mem_nil, or_false] at hn
    rcases hn with rfl | rfl
    · refine ⟨c', rfl, F.cov_in (k := ka) ?_ ca (g2 mm fun n hn => m1 n ?_)⟩
      · obtain ⟨k', e, h'⟩ := m1 (ka : Int) (by simp)
        have : k' = ka := by omega
        subst this
        exact h'
      · simp only [List.mem_cons, List.not_mem_nil, or_false] at hn ⊢
        rcases hn with h | h
        · exact .inl h
        · exact .inr (.inl h)
    · exact m1 _ (by simp)
   omega
 · rw [h.bad (.inr ⟨d, by simp, hd⟩), k.bad (.inr ⟨d, by simp, hd⟩)]
def kidsOf (xs : List Spo) (i n : Nat) : List Int := ((List.range n).filter fun k => decide ((xs[k]?).map (fun s : Spo => s.pa) = some (i : Int))).map fun k : Nat => (k : Int)
theorem kidsOf_succ (xs : List Spo) (i n : Nat) : kidsOf xs i (n + 1) = kidsOf xs i n ++ if (xs[n]?).map (fun s : Spo => s.pa) = some (i : Int) then [(n : Int)] else [] := by
 unfold kidsOf
 rw [List.range_succ, List.filter_append, List.map_append]
 by_cases h : (xs[n]?).map (fun s : Spo => s.pa) = some (i : Int)
 · rw [if_pos h, List.filter_cons_of_pos (by simpa using h)]; rfl
 · rw [if_neg h, List.filter_cons_of_neg (by simpa using h)]; rfl
theorem kidsOf_skip {xs : List Spo} {i : Nat} : ∀ (d n : Nat), (∀ k, n <= k -> k < n + d -> (xs[k]?).map (fun s : Spo => s.pa) ≠ some (i : Int)) -> kidsOf xs i (n + d) = kidsOf xs i n
 | 0, n, _ => rfl
 | d + 1, n, h => by
  rw [<- Nat.add_assoc, kidsOf_succ, if_neg (h (n + d) (by omega) (by omega)), List.append_nil, kidsOf_skip d n fun k h1 h2 => h k h1 (by omega)]
section
variable {xs : List Spo} (F : Fo xs) {i k : Nat} {s t : Spo}
include F
theorem Fo.pa_lt (hk : xs[k]? = some t) : t.pa < k := by
 by_cases h0 : 0 < k
 · obtain ⟨p, s, h1, h2, _⟩ := F.par hk h0; omega
 · have : k = 0 := by omega
   subst this
   rw [(F.rt t hk).1]; omega
theorem Fo.kid0 (hi : xs[i]? = some s) : kidsOf xs i (i + 1) = [] := by
 have : ∀ n, n <= i + 1 -> kidsOf xs i n = [] := by
  intro n
  induction n with
  | zero => intro _; rfl
  | succ n ih =>
   intro h
   rw [kidsOf_succ, ih (by omega), if_neg, List.append_nil]
   intro e
   cases hx : xs[n]? with
   | none => rw [hx] at e; cases e
   | some u =>
    rw [hx, Option.map_some, Option.some.injEq] at e
    have := F.pa_lt hx
    omega
 exact this _ (Nat.le_refl _)
theorem Fo.kid_pa (hi : xs[i]? = some s) (hk : xs[k]? = some t) (hik : i < k) (hs : (k : Int) < s.en) (hb : ∀ (j : Nat) u, i < j -> j < k -> xs[j]? = some u -> u.en <= (k : Int)) : t.pa = (i : Int) := by
 obtain ⟨p, v, h1, h2, h3, h4, h5, h6⟩ := F.par hk (by omega)
 have e1 := h6 i s hi hik hs
 by_cases he : p = i
 · rw [h2, he]
 · have := hb p v (by omega) h1 h3; omega
theorem Fo.kid_next (hk : xs[k]? = some t) {n : Nat} (hn : t.en = n) (hb : ∀ (j : Nat) u, i < j -> j < k -> xs[j]? = some u -> u.en <= (k : Int)) : ∀ (j : Nat) u, i < j -> j < n -> xs[j]? = some u -> u.en <= (n : Int) := by
 intro j u h1 h2 h3
 have hkn := (F.up k t hk).1
 by_cases e : j < k
 · have := hb j u h1 e h3; omega
 · by_cases e' : j = k
   · subst e'
     rw [hk, Option.some.injEq] at h3
     subst h3
     omega
   · have := F.lam j hk h3 (by omega) (by omega); omega
theorem Fo.kid_step (hi : xs[i]? = some s) (hk : xs[k]? = some t) (hik : i < k) (hs : (k : Int) < s.en) {n : Nat} (hn : t.en = n) (hb : ∀ (j : Nat) u, i < j -> j < k -> xs[j]? = some u -> u.en <= (k : Int)) : kidsOf xs i n = kidsOf xs i k ++ [(k : Int)] := by
 have hkn := (F.up k t hk).1
 have := kidsOf_skip (xs := xs) (i := i) (n - (k + 1)) (k + 1) fun j h1 h2 e => by
  cases hx : xs[j]? with
  | none => rw [hx] at e; cases e
  | some u =>
   rw [hx, Option.map_some, Option.some.injEq] at e
   obtain ⟨p, v, g1, g2, g3, g4, g5, g6⟩ := F.par hx (by omega)
   have := g6 k t hk (by omega) (by omega)
   omega
 rw [show k + 1 + (n - (k + 1)) = n by omega, kidsOf_succ, if_pos (by rw [hk, Option.map_some, F.kid_pa hi hk hik hs hb])] at this
 exact this
theorem Fo.kid_end (hi : xs[i]? = some s) {n : Nat} (hn : s.en = n) : kidsOf xs i xs.length = kidsOf xs i n := by
 have hu := F.up i s hi
 have := kidsOf_skip (xs := xs) (i := i) (xs.length - n) n fun j h1 h2 e => by
  cases hx : xs[j]? with
  | none => rw [hx] at e; cases e
  | some u =>
   rw [hx, Option.map_some, Option.some.injEq] at e
   obtain ⟨p, v, g1, g2, g3, g4, g5, g6⟩ := F.par hx (by omega)
   have : p = i := by omega
   subst this
   rw [hi, Option.some.injEq] at g3
   subst g3
   omega
 rw [show n + (xs.length - n) = xs.length by omega] at this
 exact this
end
theorem kidsOf_get {xs : List Spo} {i n j : Nat} {k : Int} (h : (kidsOf xs i n)[j]? = some k) : ∃ (q : Nat) (t : Spo), k = q /\ xs[q]? = some t /\ t.pa = i := by
 have := List.mem_of_getElem? h
 unfold kidsOf at this
 obtain ⟨q, hq, rfl⟩ := List.mem_map.1 this
 have := (List.mem_filter.1 hq).2
 have := of_decide_eq_true this
 cases hx : xs[q]? with
 | none => rw [hx] at this; cases this
 | some u =>
  rw [hx, Option.map_some, Option.some.injEq] at this
  exact ⟨q, u, rfl, hx, this⟩
theorem kidsOf_rise (xs : List Spo) (i : Nat) : ∀ n, List.Pairwise (· < ·) (kidsOf xs i n) /\ ∀ k, k ∈ kidsOf xs i n -> k < (n : Int)
 | 0 => ⟨List.Pairwise.nil, fun k h => by simp [kidsOf] at h⟩
 | n + 1 => by
  obtain ⟨h1, h2⟩ := kidsOf_rise xs i n
  rw [kidsOf_succ]
  split
  · refine ⟨List.pairwise_append.2 ⟨h1, List.pairwise_singleton _ _, fun a ha b hb => ?_⟩, fun k hk => ?_⟩
    · simp only [List.mem_singleton] at hb
      subst hb
      exact h2 a ha
    · rcases List.mem_append.1 hk with hk | hk
      · have := h2 k hk; omega
      · simp only [List.mem_singleton] at hk
        subst hk
        omega
  · rw [List.append_nil]
    exact ⟨h1, fun k hk => by have := h2 k hk; omega⟩
def cntK (xs : List Spo) (n : Nat) : Nat := ((List.range n).map fun i => (kidsOf xs i xs.length).length).sum
theorem cntK_succ (xs : List Spo) (n : Nat) : cntK xs (n + 1) = cntK xs n + (kidsOf xs n xs.length).length := by
 unfold cntK
 rw [List.range_succ, List.map_append, List.sum_append]
 simp
theorem Fo.count {xs : List Spo} (F : Fo xs) : cntK xs xs.length = xs.length - 1 := by
 have key : ∀ (n m : Nat), m <= xs.length -> ((List.range n).map fun i => (kidsOf xs i m).length).sum = ((List.range m).filter fun k => decide (∃ i : Nat, i < n /\ (xs[k]?).map (fun s : Spo => s.pa) = some (i : Int))).length := by
  intro n m
  induction m with
  | zero =>
   intro _
   have : ∀ l : List Nat, (l.map fun i => (kidsOf xs i 0).length).sum = 0 := fun l => by induction l with
    | nil => rfl
    | cons a l ih => rw [List.map_cons, List.sum_cons, ih]; rfl
   exact this _
  | succ m ih =>
   intro hm
   have ih := ih (by omega)
   rw [List.range_succ (n := m), List.filter_append, List.length_append, <- ih]
   have hl : ∀ n : Nat, ((List.range n).map fun i => (kidsOf xs i (m + 1)).length).sum = ((List.range n).map fun i => (kidsOf xs i m).length).sum + (List.filter (fun k => decide (∃ i : Nat, i < n /\ (xs[k]?).map (fun s : Spo => s.pa) = some (i : Int))) [m]).length := by
    intro n
    induction n with
    | zero =>
     rw [List.filter_cons_of_neg (by simp)]
     rfl
    | succ n ihn =>
     rw [List.range_succ, List.map_append, List.map_append, List.sum_append, List.sum_append, ihn]
     simp only [List.map_cons, List.map_nil, List.sum_cons, List.sum_nil, Nat.add_zero]
     rw [kidsOf_succ, List.length_append]
     by_cases h : (xs[m]?).map (fun s : Spo => s.pa) = some (n : Int)
     · rw [if_pos h]
       have h1 : ¬ ∃ i : Nat, i < n /\ (xs[m]?).map (fun s : Spo => s.pa) = some (i : Int) := fun ⟨i, hi, e⟩ => by
        rw [h, Option.some.injEq] at e; omega
       have h2 : ∃ i : Nat, i < n + 1 /\ (xs[m]?).map (fun s : Spo => s.pa) = some (i : Int) := ⟨n, by omega, h⟩
       rw [List.filter_cons_of_neg (by simpa using h1), List.filter_cons_of_pos (by simpa using h2)]
       simp only [List.filter_nil, List.length_nil, List.length_singleton]
       omega
     · rw [if_neg h]
       have h2 : (∃ i : Nat, i < n + 1 /\ (xs[m]?).map (fun s : Spo => s.pa) = some (i : Int)) ↔ ∃ i : Nat, i < n /\ (xs[m]?).map (fun s : Spo => s.pa) = some (i : Int) := by
        refine ⟨fun ⟨i, hi, e⟩ => ⟨i, ?_, e⟩, fun ⟨i, hi, e⟩ => ⟨i, by omega, e⟩⟩
        have : i ≠ n := fun e' => h (by rw [e, e'])
        omega
       have e2 : List.filter (fun k => decide (∃ i : Nat, i < n + 1 /\ (xs[k]?).map (fun s : Spo => s.pa) = some (i : Int))) [m] = List.filter (fun k => decide (∃ i : Nat, i < n /\ (xs[k]?).map (fun s : Spo => s.pa) = some (i : Int))) [m] := by
        simp only [List.filter_cons, decide_eq_decide.2 h2]
        rfl
       rw [e2, List.length_nil]
       omega
   exact hl n
 unfold cntK
 rw [key xs.length xs.length (Nat.le_refl _)]
 obtain ⟨m, hm⟩ : ∃ m, xs.length = m + 1 := ⟨xs.length - 1, by have := F.ne; omega⟩
 rw [hm, List.range_succ_eq_map, List.filter_cons_of_neg]
 · rw [List.filter_eq_self.2 fun k hk => ?_, List.length_map, List.length_range, Nat.add_sub_cancel]
   obtain ⟨j, hj, rfl⟩ := List.mem_map.1 hk
   have hj := List.mem_range.1 hj
   obtain ⟨t, ht⟩ := get_at (xs := xs) (i := j + 1) (by omega)
   obtain ⟨p, s, h1, h2, _⟩ := F.par ht (by omega)
   refine decide_eq_true ⟨p, by omega, ?_⟩
   show (xs[j + 1]?).map (fun s : Spo => s.pa) = _
   rw [ht, Option.map_some, h2]
 · obtain ⟨t, ht⟩ := get_at F.ne
   intro h
   obtain ⟨i, hi, e⟩ := of_decide_eq_true h
   rw [ht, Option.map_some, Option.some.injEq, (F.rt t ht).1] at e
   omega
end Go.Proofs.YtndkfaaeeojeiaaGreatDoor.Con
namespace Go.Proofs.YtndkfaaeeojeiaaGreatDoor.Con
open Go Go.RowKit Go.Kt Go.Kt.V Go.Proofs.YtndkfaaeeojeiaaGreatDoor.Vc
set_option linter.unusedSimpArgs false
set_option linter.unusedVariables false
set_option maxHeartbeats 4000000
def ne (l : List UInt8) : Bool := !decide (l = [])
def joinM (ws : List (List UInt8)) : List UInt8 := Lib.join (ws.filter ne) [32]
theorem Only.below {w w' : World} (h : Below w.heap.size w w') : Only [] w w' := ⟨h.os, h.tape, h.output, h.size, fun k hk _ => h.block k hk⟩
theorem els_tx {w : World} {F : Nat -> Prop} : ∀ {l : List (List UInt8)} {css : List (List Value)}, Els rTx 1 w F l css -> css.flatten = l.map fun x => .string (T x)
 | [], [], _ => rfl
 | c :: l, d :: css, h => by
  obtain ⟨⟨_, h1⟩, h2⟩ := h
  unfold rTx at h1
  subst h1
  rw [List.flatten_cons, els_tx h2]
  rfl
theorem joined1_c (l : List UInt8) (w : World) : Calls Tryz.prog 105 #[.string (T l)] w fun e w' => e = .returned (.bool (decide (l = []))) /\ w' = w := by
 refine ret (v44w (T l) (fun v w' => v = .bool (decide (l = [])) /\ w' = w) w ?_)
 unfold v44v
 exact ⟨by rw [show ByteArray.mk #[] = T [] from rfl, T_eq], rfl⟩
section
variable {w : World} {B : Nat} {F : Nat -> Prop} {s : Sl} {ws : List (List UInt8)}
theorem indexE_c (h : Own rTx 1 9 B w F s ws) : Calls Tryz.prog 145 #[s.v, .func (.func 105) #[] #[]] w fun e w' =>
  ∃ i : Int, e = .returned (.int .i64 i) /\ w' = w /\ ((i = -1 /\ ws.filter ne = ws) ∨ ∃ n : Nat, i = n /\ n < ws.length /\ (ws.take (n + 1)).filter ne = ws.take n) := by
 refine (v82w s ⟨.func (.func 105) #[] #[], rfl⟩ (fun v w' => ∃ i : Int, v = .int .i64 i /\ w' = w /\ ((i = -1 /\ ws.filter ne = ws) ∨ ∃ n : Nat, i = n /\ n < ws.length /\ (ws.take (n + 1)).filter ne = ws.take n)) w ?_).mono (by
  rintro e w' ⟨v, rfl, i, rfl, h⟩; exact ⟨i, rfl, h⟩)
 unfold v82v
 have hs := h.slice rTx_ok
 have hlen := hs.len
 have hbig := hs.big
 have hcap := hs.cap
 refine ⟨fun nv i w' => ∃ n : Nat, n <= ws.length /\ i = (n : Int) /\ nv = ws.length - n /\ (ws.take n).filter ne = ws.take n /\ w' = w, ws.length, ⟨0, Nat.zero_le _, rfl, rfl, rfl, rfl⟩, ?_⟩
 rintro nv _ w0 ⟨n, hn, rfl, rfl, hall, rfl⟩
 refine ⟨fun hc => ?_, fun hc => ?_⟩
 · have hlt : (n : Int) < s.n := of_decide_eq_true hc
   obtain ⟨ad, x, cs, g1, g2, g3, g4, g5, g6⟩ := hs.get (Int.natCast_nonneg n) hlt
   rw [Int.toNat_natCast] at g2
   unfold rTx at g6
   subst g6
   have ht : ws.take (n + 1) = ws.take n ++ [x] := by
    rw [List.take_add_one, g2]
    rfl
   refine ⟨ad, g1, _, g5, 105, [], [], rfl, fnOk_run (by kernel_rfl), ?_⟩
   refine (joined1_c x w0).mono ?_
   rintro _ w1 ⟨rfl, rfl⟩
   refine ⟨_, rfl, fun hb => ⟨_, rfl, rfl, .inr ⟨n, rfl, by omega, ?_⟩⟩, fun hb => ⟨ws.length - (n + 1), by omega, n + 1, by omega, by rw [wr' (by omega) (by omega)]; rfl, rfl, ?_, rfl⟩⟩
   · have hb : x = [] := of_decide_eq_true hb
     rw [ht, List.filter_append, hall, hb]
     simp [ne]
   · have hb : x ≠ [] := of_decide_eq_false hb
     rw [ht, List.filter_append, hall]
     simp [ne, hb]
 · have hge : ¬ (n : Int) < s.n := of_decide_eq_false hc
   rw [List.take_of_length_le (by omega)] at hall
   exact ⟨_, rfl, rfl, .inl ⟨rfl, hall⟩⟩
theorem deleteE_c (h : Own rTx 1 9 B w F s ws) : Calls Tryz.prog 104 #[s.v, .func (.func 105) #[] #[]] w fun e w' =>
  ∃ s' : Sl, e = .returned s'.v /\ Own rTx 1 9 B w' F s' (ws.filter ne) /\ OnlyP (fun k => B <= k) w w' := by
 refine (v78w s ⟨.func (.func 105) #[] #[], rfl⟩ (fun v w' => ∃ s' : Sl, v = s'.v /\ Own rTx 1 9 B w' F s' (ws.filter ne) /\ OnlyP (fun k => B <= k) w w') w ?_).mono (by
  rintro e w' ⟨v, rfl, s', rfl, h⟩; exact ⟨s', rfl, h⟩)
 unfold v78v
 have hlen := h.len
 have hcap := h.cap
 have hbig := (h.slice rTx_ok).big
 refine (indexE_c h).mono ?_
 rintro _ w0 ⟨i, rfl, rfl, hi⟩
 refine ⟨i, rfl, fun hc => ?_, fun hc => ?_⟩
 · rcases hi with ⟨_, hf⟩ | ⟨n, rfl, hn, hf⟩
   · rw [hf]
     exact ⟨s, rfl, h, OnlyP.refl _ _⟩
   · have : (n : Int) = -1 := eq_of_beq hc
     omega
 rcases hi with ⟨rfl, _⟩ | ⟨n, rfl, hn, hf⟩
 · exact absurd hc (by decide)
 refine ⟨fun nv a b w' => ∃ (L : List (List UInt8)) (p q : Nat), a = p /\ b = q /\ p < q /\ q <= ws.length /\ nv = ws.length - q /\ L.length = ws.length /\ L.take p = (ws.take q).filter ne /\ L.drop q = ws.drop q /\ Own rTx 1 9 B w' F s L /\ OnlyP (fun k => B <= k) w0 w',
  ws.length - (n + 1), ⟨ws, n, n + 1, rfl, by rw [wr' (by omega) (by omega)]; rfl, by omega, by omega, rfl, rfl, hf.symm, rfl, h, OnlyP.refl _ _⟩, ?_⟩
 rintro nv _ _ w1 ⟨L, p, q, rfl, rfl, hpq, hq, rfl, hL, ht, hd, hO, hP⟩
 refine ⟨fun hc => ?_, fun hc => ?_⟩
 · have hlt : (q : Int) < s.n := of_decide_eq_true hc
   have hq' : q < ws.length := by omega
   obtain ⟨ad, x, cs, g1, g2, g3, g4, g5, g6⟩ := (hO.slice rTx_ok).get (Int.natCast_nonneg q) hlt
   rw [Int.toNat_natCast] at g2
   unfold rTx at g6
   subst g6
   have hx : ws[q]? = some x := by
    rw [<- g2]
    have e1 := congrArg (fun l => l[0]?) hd
    simpa using e1.symm
   have hw : ws.take (q + 1) = ws.take q ++ [x] := by
    rw [List.take_add_one, hx]
    rfl
   have hdn : ∀ M : List (List UInt8), (∀ j, q + 1 <= j -> M[j]? = L[j]?) -> M.drop (q + 1) = ws.drop (q + 1) := fun M hM => by
    apply List.ext_getElem?
    intro j
    rw [List.getElem?_drop, List.getElem?_drop, hM _ (by omega)]
    have e1 := congrArg (fun l => l[1 + j]?) hd
    simp only [List.getElem?_drop] at e1
    rw [show q + 1 + j = q + (1 + j) by omega]
    exact e1
   refine ⟨fun j w2 => ∃ (M : List (List UInt8)) (p' : Nat), j = p' /\ p' < q + 1 /\ M.length = ws.length /\ M.take p' = (ws.take (q + 1)).filter ne /\ M.drop (q + 1) = ws.drop (q + 1) /\ Own rTx 1 9 B w2 F s M /\ OnlyP (fun k => B <= k) w0 w2, ?_, ad, g1, _, g5, 105, [], [], rfl, fnOk_run (by kernel_rfl), ?_⟩
   · rintro _ w2 ⟨M, p', rfl, m1, m2, m3, m4, m5, m6⟩
     exact ⟨ws.length - (q + 1), by omega, M, p', q + 1, rfl, by rw [wr' (by omega) (by omega)]; rfl, m1, hq', rfl, m2, m3, m4, m5, m6⟩
   refine (joined1_c x w1).mono ?_
   rintro _ w2 ⟨rfl, rfl⟩
   refine ⟨_, rfl, fun hb => ?_, fun hb => ?_⟩
   · have hb : x ≠ [] := by simpa using hb
     obtain ⟨g, cells, b1, b2, b3, b4, b5⟩ := hO.store rTx_ok (n := p) (by omega) (x := x) (vs := [.string (T x)]) (G := fun _ => False) rfl rfl (fun k hk => hk.elim) (by decide)
     refine ⟨⟨g, p * 1, none⟩, b2, g, p * 1, cells, _, rfl, b3, b4, fun w3 hO3 hB3 => ⟨L.set p x, p + 1, by rw [wr' (by omega) (by omega)]; rfl, by omega, by rw [List.length_set]; exact hL, ?_, hdn _ fun j hj => by rw [List.getElem?_set_ne (by omega)], b5 w3 hO3 hB3, hP.trans (hO3.p (F := fun k => B <= k) fun k hk => .inl ?_) fun k hk => .inl hk⟩⟩
     · rw [hw, List.filter_append, <- ht, List.take_add_one, List.getElem?_set_self (by omega), List.take_set_of_le (by omega)]
       simp [ne, hb]
     · simp only [List.mem_singleton] at hk
       subst hk
       rcases hO with ⟨rfl, _⟩ | ⟨g', _, _, a1, a2, _⟩
       · cases b1
       · rw [a1] at b1
         injection b1 with b1
         injection b1 with b1
         omega
   · have hb : x = [] := by simpa using hb
     refine ⟨L, p, rfl, by omega, hL, ?_, hdn _ fun j _ => rfl, hO, hP⟩
     rw [hw, List.filter_append, <- ht, hb]
     simp [ne]
 · have hge : ¬ (q : Int) < s.n := of_decide_eq_false hc
   have hqe : q = ws.length := by omega
   subst hqe
   rw [List.take_of_length_le (Nat.le_refl _)] at ht
   obtain ⟨w2, g, c1, c2, c3, c4⟩ := Own.clear (P := Tryz.prog) (t := 57) (ty := 0) (i := p) rTx_ok (by decide) (by kernel_rfl) (fun w => Tryz.zeroValue9 w) (by intro v hv; simp [Value.cells] at hv; subst hv; rfl) rfl hO (by omega)
   refine ⟨p, ⟨rfl, by omega, hcap⟩, w2, c1, p, ⟨rfl, by omega⟩, _, rfl, ?_, hP.trans (c3.p (F := fun k => B <= k) fun k hk => .inl ?_) fun k hk => .inl hk⟩
   · rw [<- ht]
     exact c4
   · simp only [List.mem_singleton] at hk
     subst hk
     rcases hO with ⟨rfl, _⟩ | ⟨g', _, _, a1, a2, _⟩
     · cases c2
     · rw [a1] at c2
       injection c2 with c2
       injection c2 with c2
       omega
theorem joined_c (h : Own rTx 1 9 B w F s ws) (hl : (joinM ws).length <= 140737488355328) (hn : ws.length <= 140737488355328) : Calls Tryz.prog 62 #[s.v] w fun e w' => e = .returned (.string (T (joinM ws))) /\ OnlyP (fun k => B <= k) w w' := by
 refine ret (v45w s (fun v w' => v = .string (T (joinM ws)) /\ OnlyP (fun k => B <= k) w w') w ?_)
 unfold v45v
 refine (deleteE_c h).mono ?_
 rintro _ w1 ⟨s', rfl, hO, hP⟩
 refine ⟨s', rfl, ?_⟩
 have hlen := hO.len
 have hle := List.length_filter_le ne ws
 have hfin : ∀ {w2 : World}, Only [] w1 w2 -> OnlyP (fun k => B <= k) w w2 := fun h => hP.trans h.p0 fun k hk => .inl hk
 rcases hO with ⟨rfl, he⟩ | ⟨g, css, tail, a1, a2, a4, a5, a6, a7, a9, a8⟩
 · refine (Tryz.strings_Join_none none 0 (T [32]) w1).mono ?_
   rintro _ w2 ⟨rfl, rfl⟩
   refine ⟨_, rfl, ?_, hP⟩
   unfold joinM
   rw [he]
   rfl
 · obtain ⟨sa, sn, sc⟩ := s'
   dsimp only at a1 a5 a6 a7 a9 hlen
   subst a1 hlen
   have hfl := els_tx a8
   have := Tryz.strings_Join g 0 sc ((ws.filter ne).map T) (T [32]) w1 (fun j x hj => by
    rw [List.getElem?_map, Option.map_eq_some_iff] at hj
    obtain ⟨y, hy, rfl⟩ := hj
    have := a4.cells 0 ((ws.filter ne).map fun x => Value.string (T x)) (fun j v hj => by rw [Nat.zero_add, hfl, List.getElem?_append_left (List.getElem?_eq_some_iff.1 hj).1]; exact hj) j (.string (T y)) (by rw [List.getElem?_map, hy]; rfl)
    rw [addr_lit] at this
    exact this) a4.lt (by rw [List.length_map]; omega) (by rw [List.length_map]; omega) (by
    rw [List.map_map]
    have : ((fun x : ByteArray => x.data.toList) ∘ T) = id := rfl
    rw [this, List.map_id]
    exact hl)
   rw [List.length_map] at this
   refine this.mono ?_
   rintro _ w2 ⟨rfl, hB⟩
   refine ⟨_, rfl, ?_, hfin (Only.below hB)⟩
   rw [List.map_map]
   have : ((fun x : ByteArray => x.data.toList) ∘ T) = id := rfl
   rw [this, List.map_id]
   rfl
end
theorem joinB (w : World) (ws : List (List UInt8)) {n : Nat} {parts : Array (Nat × Value)} (hp : parts = (((ws.map fun x => Value.string (T x)).zipIdx 0).map fun x => (x.2, x.1)).toArray) (hn : ws.length = n) (h0 : 0 < n) (hsm : n * 1 <= 16777216) (hl : (joinM ws).length <= 140737488355328) :
  ∃ (q : Sl) (w0 : World), (Instr.buildSlice 57 n parts).run Tryz.prog w = .ok q.v w0 /\ Only [] w w0 /\ Own rTx 1 9 w.heap.size w0 (fun _ => True) q ws /\ Calls Tryz.prog 62 #[q.v] w0 fun e w' => e = .returned (.string (T (joinM ws))) /\ OnlyP (fun k => w.heap.size <= k) w0 w' := by
 obtain ⟨q, w0, k1, k2, k3⟩ := buildS w ws hp hn h0 hsm
 exact ⟨q, w0, k1, k3, k2, joined_c k2 hl (by omega)⟩
theorem joinM_len : ∀ (ws : List (List UInt8)), (joinM ws).length <= (ws.map fun l => l.length + 1).sum := by
 have h1 : ∀ (r : List (List UInt8)), (Lib.joinTail [32] r).length = (r.map fun l => l.length + 1).sum := fun r => by
  induction r with
  | nil => rfl
  | cons x r ih =>
   unfold Lib.joinTail at ih ⊢
   rw [List.map_cons, List.flatten_cons, List.length_append, ih, List.map_cons, List.sum_cons]
   simp
 have h2 : ∀ (r : List (List UInt8)), (Lib.join r [32]).length <= (r.map fun l => l.length + 1).sum := fun r => by
  cases r with
  | nil => exact Nat.zero_le _
  | cons x r =>
   rw [Lib.join_cons, List.length_append, h1, List.map_cons, List.sum_cons]
   omega
 have h3 : ∀ (r : List (List UInt8)), ((r.filter ne).map fun l => l.length + 1).sum <= (r.map fun l => l.length + 1).sum := fun r => by
  induction r with
  | nil => exact Nat.le_refl _
  | cons x r ih =>
   rw [List.filter_cons, List.map_cons, List.sum_cons]
   split
   · rw [List.map_cons, List.sum_cons]; omega
   · omega
 exact fun ws => Nat.le_trans (h2 _) (h3 ws)
structure Fz (bs : List Nat) (w w' : World) (ks : List Nat) : Prop where
 o : Only bs w w'
 k : ∀ x, x ∈ ks -> w.heap.size <= x /\ x < w'.heap.size
 lo : ∀ x, x ∈ bs -> x < w.heap.size
section
variable {bs bs' ks ks' : List Nat} {w w1 w2 w' : World} {k0 b : Nat}
theorem Fz.start (lo : ∀ x, x ∈ bs -> x < w.heap.size) : Fz bs w w [] := ⟨Only.refl _ _, fun _ h => (by cases h), lo⟩
theorem Fz.go (h : Fz bs w w1 ks) (k : Only bs' w1 w2) (hb : ∀ x, x ∈ bs' -> x ∈ bs ∨ x ∈ ks) : Fz bs w w2 ks :=
 ⟨h.o.trans k fun x hx => (hb x hx).imp id fun hk => (h.k x hk).1, fun x hx => ⟨(h.k x hx).1, Nat.lt_of_lt_of_le (h.k x hx).2 k.size⟩, h.lo⟩
theorem Fz.new (h : Fz bs w w1 ks) (k : Only bs' w1 w2) (hb : ∀ x, x ∈ bs' -> x ∈ bs ∨ w.heap.size <= x) : Fz bs w w2 ks :=
 ⟨h.o.trans k hb, fun x hx => ⟨(h.k x hx).1, Nat.lt_of_lt_of_le (h.k x hx).2 k.size⟩, h.lo⟩
theorem Fz.q (h : Fz bs w w1 ks) (k : Only [] w1 w2) : Fz bs w w2 ks := h.go k fun x hx => (by cases hx)
theorem Fz.c (h : Fz (b :: bs) w w1 ks) (k : Only [b] w1 w2) : Fz (b :: bs) w w2 ks := h.go k fun x hx => .inl (by simp only [List.mem_singleton] at hx; simp [hx])
theorem Fz.f (h : Fz bs w w1 ks) (k : Only [k0] w1 w2) (hk : k0 ∈ ks) : Fz bs w w2 ks := h.go k fun x hx => .inr (by simp only [List.mem_singleton] at hx; rw [hx]; exact hk)
theorem Fz.al (h : Fz bs w w1 ks) (k : Only [] w1 w2) (h1 : w1.heap.size <= k0) (h2 : k0 < w2.heap.size) : Fz bs w w2 (k0 :: ks) :=
 ⟨(h.q k).o, fun x hx => by
  rcases List.mem_cons.1 hx with rfl | hx
  · exact ⟨Nat.le_trans h.o.size h1, h2⟩
  · exact (h.q k).k x hx, h.lo⟩
theorem Fz.sm (h : Fz bs w w1 ks) (k : Only bs' w1 w2) (hk : ∀ x, x ∈ ks' -> x ∈ ks) (hb : ∀ x, x ∈ bs' -> x ∈ bs ∨ ∀ y, y ∈ ks' -> y ≠ x) : Same ks' w1 w2 := k.same fun x hx =>
 ⟨(h.k x (hk x hx)).2, fun hm => by
  rcases hb x hm with h1 | h1
  · have := (h.k x (hk x hx)).1
    have := h.lo x h1
    omega
  · exact h1 x hx rfl⟩
theorem Fz.sq (h : Fz bs w w1 ks) (k : Only [] w1 w2) (hk : ∀ x, x ∈ ks' -> x ∈ ks) : Same ks' w1 w2 := h.sm k hk fun x hx => (by cases hx)
theorem Fz.sc (h : Fz (b :: bs) w w1 ks) (k : Only [b] w1 w2) (hk : ∀ x, x ∈ ks' -> x ∈ ks) : Same ks' w1 w2 := h.sm k hk fun x hx => .inl (by simp only [List.mem_singleton] at hx; simp [hx])
theorem Fz.ne (h : Fz bs w w1 ks) (hk : k0 ∈ ks) (hb : b ∈ bs) : k0 ≠ b := fun e => by
 have := (h.k k0 hk).1
 have := h.lo b hb
 omega
end
section
variable {α : Type} {r : Rp α} {w w1 w' : World} {x : α} {cs : List Value} {B : Nat}
structure Stay (B : Nat) (w w' : World) : Prop where
 sz : w.heap.size <= w'.heap.size
 eq : ∀ k, B <= k -> k < w.heap.size -> w'.heap[k]? = w.heap[k]?
theorem Stay.refl (B : Nat) (w : World) : Stay B w w := ⟨Nat.le_refl _, fun _ _ _ => rfl⟩
theorem Stay.go {bs : List Nat} (h : Stay B w w1) (k : Only bs w1 w') (hb : ∀ x, x ∈ bs -> x < B ∨ w.heap.size <= x) : Stay B w w' :=
 ⟨Nat.le_trans h.sz k.size, fun i h1 h2 => (k.block i (Nat.lt_of_lt_of_le h2 h.sz) fun hm => by have := hb i hm; omega).trans (h.eq i h1 h2)⟩
theorem Stay.of {bs : List Nat} (k : Only bs w w') (hb : ∀ x, x ∈ bs -> x < B ∨ w.heap.size <= x) : Stay B w w' := (Stay.refl B w).go k hb
theorem _root_.Go.Kt.Rp.Ok.stay (hr : r.Ok) (h : r w (Fr B) x cs) (hs : Stay B w w') : r w' (Fr B) x cs :=
 hr.mono (hr.keep (hr.inHeap h) fun k hk hlt => hs.eq k hk.1 hlt) fun k hk => hk.1
theorem _root_.Go.Kt.Rp.Ok.low (hr : r.Ok) (h : r w (Fr B) x cs) {A : Nat} (hA : A <= B) : r w (Fr A) x cs := hr.mono h fun k hk => Nat.le_trans hA hk
variable {size : Nat} {e : TypeId} {s : Sl} {xs : List α} {t : Bool}
theorem SlG.stay (hr : r.Ok) (h : SlG t r size e w (Fr B) s xs) (h0 : 0 < size) (hs : Stay B w w') : SlG t r size e w' (Fr B) s xs :=
 ((h.inHeap hr h0).keep hr h0 fun k hk hlt => hs.eq k hk.1 hlt).mono hr fun k hk => hk.1
theorem SlG.low (hr : r.Ok) (h : SlG t r size e w (Fr B) s xs) {A : Nat} (hA : A <= B) : SlG t r size e w (Fr A) s xs := h.mono hr fun k hk => Nat.le_trans hA hk
end
abbrev sxv (l : Sl) (s : Sx) : List Value := [l.v, .int .i64 (s.i : Int), .int .i64 s.fc, .int .i64 s.fa, .int .i64 s.v, .int .i64 s.n, .int .i64 s.d, .int .i64 s.m, .int .i64 s.a]
structure Sr (F : Nat -> Prop) (ts : List Tk) (w : World) (b : Nat) (l : Sl) (s : Sx) : Prop where
 blk : Blk w b 88 (sxv l s)
 tok : SliceF rTk 4 w F l ts
 hF : ∀ k, F k -> k < b
 en : EndL ts
 lt : s.i < ts.length
 sm : ts.length <= 16777216
abbrev rp (b : Nat) : Value := .pointer (some ⟨b, 0, none⟩)
section
variable {F : Nat -> Prop} {ts : List Tk} {w w' : World} {b : Nat} {l : Sl} {s s' : Sx}
theorem Sr.own (h : Sr F ts w b l s) {bs : List Nat} (hO : Only bs w w') (hb : ∀ x, x ∈ bs -> b < x) : Sr F ts w' b l s :=
 ⟨hO.blk h.blk fun hm => (by have := hb b hm; omega), SliceF.only rTk_ok (by decide) h.tok hO fun k hk _ hm => (by have := h.hF k hk; have := hb k hm; omega), h.hF, h.en, h.lt, h.sm⟩
theorem Sr.far (h : Sr F ts w b l s) {bs : List Nat} (hO : Only bs w w') (hb : ∀ x, x ∈ bs -> x ≠ b /\ ¬ F x) : Sr F ts w' b l s :=
 ⟨hO.blk h.blk fun hm => (hb b hm).1 rfl, SliceF.only rTk_ok (by decide) h.tok hO fun k hk _ hm => (hb k hm).2 hk, h.hF, h.en, h.lt, h.sm⟩
theorem Sr.far1 (h : Sr F ts w b l s) {k0 : Nat} (hO : Only [k0] w w') (hk : k0 ≠ b /\ ¬ F k0) : Sr F ts w' b l s := h.far hO fun x hx => (by simp only [List.mem_singleton] at hx; subst hx; exact hk)
theorem Sr.gt (h : Sr F ts w b l s) {x : Nat} (hx : b < x) : x ≠ b /\ ¬ F x := ⟨by omega, fun hF => by have := h.hF x hF; omega⟩
theorem Sr.only (h : Sr F ts w b l s) (hO : Only [] w w') : Sr F ts w' b l s := h.own hO fun x hx => (by cases hx)
theorem Sr.one (h : Sr F ts w b l s) {k0 : Nat} (hO : Only [k0] w w') (hk : b < k0) : Sr F ts w' b l s := h.own hO fun x hx => (by simp only [List.mem_singleton] at hx; omega)
theorem Sr.turn (h : Sr F ts w b l s) (hO : Only [b] w w') (hB : Blk w' b 88 (sxv l s')) (hi : s'.i < ts.length) : Sr F ts w' b l s' :=
 ⟨hB, SliceF.only rTk_ok (by decide) h.tok hO fun k hk _ hm => (by have := h.hF k hk; simp only [List.mem_singleton] at hm; omega), h.hF, h.en, hi, h.sm⟩
theorem Sr.lb (h : Sr F ts w b l s) : b < w.heap.size := h.blk.lt
theorem Sr.z (h : Sr F ts w b l s) : Fz [b] w w [] := Fz.start fun x hx => (by simp only [List.mem_singleton] at hx; rw [hx]; exact h.lb)
theorem Sr.big (h : Sr F ts w b l s) : ts.length <= 9223372036854775807 := by
 have h1 := h.tok.len
 have h2 := h.tok.cap
 have h3 := h.tok.big
 omega
theorem Sr.wr (h : Sr F ts w b l s) : IntKind.wrap .i64 ((s.i : Int) + 1) = ((s.i + 1 : Nat) : Int) := by
 have := h.big
 have := h.lt
 rw [wr' (by omega) (by omega)]; rfl
theorem Sr.now (h : Sr F ts w b l s) : ∃ ad, SlAt l (s.i : Int) 4 ad /\ Cells w ad [.int .i64 (tk ts s.i).k, .string (T (tk ts s.i).t), .int .i64 (tk ts s.i).n, .int .i64 (tk ts s.i).a] := by
 have hl := h.tok.len
 have hlt := h.lt
 obtain ⟨ad, x, cs, g1, g2, g3, g4, g5, g6⟩ := h.tok.get (Int.natCast_nonneg s.i) (by omega)
 rw [Int.toNat_natCast, tk_at h.lt] at g2
 injection g2 with g2
 subst g2
 unfold rTk at g6
 subst g6
 exact ⟨ad, g1, g5⟩
structure Dn (F : Nat -> Prop) (ts : List Tk) (w w' : World) (b : Nat) (l : Sl) (s : Sx) : Prop where
 o : Only [b] w w'
 r : Sr F ts w' b l s
theorem Sr.dn (h : Sr F ts w b l s) : Dn F ts w w b l s := ⟨Only.refl _ _, h⟩
theorem Dn.q (h : Dn F ts w w' b l s) {w2 : World} (k : Only [] w' w2) : Dn F ts w w2 b l s := ⟨h.o.tr0 k, h.r.only k⟩
theorem Dn.nx (h : Dn F ts w w' b l s) {w2 : World} {s' : Sx} (k : Dn F ts w' w2 b l s') : Dn F ts w w2 b l s' := ⟨h.o.trans k.o fun x hx => .inl hx, k.r⟩
theorem Dn.f (h : Dn F ts w w' b l s) {w2 : World} {k0 : Nat} (k : Only [k0] w' w2) (hk : w.heap.size <= k0) (hb : b < w.heap.size) : Dn F ts w w2 b l s := ⟨h.o.new k hk, h.r.one k (by omega)⟩
theorem Sr.tk (h : Sr F ts w b l s) {ad : Addr} (g : SlAt l (s.i : Int) 4 ad) : Cells w ad [.int .i64 (tk ts s.i).k, .string (T (tk ts s.i).t), .int .i64 (tk ts s.i).n, .int .i64 (tk ts s.i).a] := by
 obtain ⟨ad', g1, g2⟩ := h.now
 rw [g.uniq g1]
 exact g2
structure Zt (F : Nat -> Prop) (ts : List Tk) (w w' : World) (b : Nat) (l : Sl) (s : Sx) (ks : List Nat) : Prop where
 z : Fz [b] w w' ks
 r : Sr F ts w' b l s
section
variable {w2 : World} {ks ks' : List Nat} {k0 : Nat}
theorem Sr.zt (h : Sr F ts w b l s) : Zt F ts w w b l s [] := ⟨h.z, h⟩
theorem Zt.q (h : Zt F ts w w' b l s ks) (k : Only [] w' w2) : Zt F ts w w2 b l s ks := ⟨h.z.q k, h.r.only k⟩
theorem Zt.al (h : Zt F ts w w' b l s ks) (k : Only [] w' w2) (h1 : w'.heap.size <= k0) (h2 : k0 < w2.heap.size) : Zt F ts w w2 b l s (k0 :: ks) := ⟨h.z.al k h1 h2, h.r.only k⟩
theorem Zt.ad (h : Zt F ts w w' b l s ks) (h1 : w.heap.size <= k0) (h2 : k0 < w'.heap.size) : Zt F ts w w' b l s (k0 :: ks) := ⟨⟨h.z.o, fun x hx => by
 rcases List.mem_cons.1 hx with rfl | hx
 · exact ⟨h1, h2⟩
 · exact h.z.k x hx, h.z.lo⟩, h.r⟩
theorem Zt.lt (h : Zt F ts w w' b l s ks) (hk : k0 ∈ ks) : b < k0 := Nat.lt_of_lt_of_le (h.z.lo b (by simp)) (h.z.k k0 hk).1
theorem Zt.f (h : Zt F ts w w' b l s ks) (k : Only [k0] w' w2) (hk : k0 ∈ ks) : Zt F ts w w2 b l s ks := ⟨h.z.f k hk, h.r.one k (h.lt hk)⟩
theorem Zt.nx (h : Zt F ts w w' b l s ks) (k : Dn F ts w' w2 b l s') : Zt F ts w w2 b l s' ks := ⟨h.z.c k.o, k.r⟩
theorem Zt.dn (h : Zt F ts w w' b l s ks) : Dn F ts w w' b l s := ⟨h.z.o, h.r⟩
theorem Zt.up (h : Zt F ts w w' b l s ks) (k : Only [b] w' w2) (hB : Blk w2 b 88 (sxv l s')) (hi : s'.i < ts.length) : Zt F ts w w2 b l s' ks := ⟨h.z.c k, h.r.turn k hB hi⟩
theorem Zt.sq (h : Zt F ts w w' b l s ks) (k : Only [] w' w2) (hk : ∀ x, x ∈ ks' -> x ∈ ks) : Same ks' w' w2 := h.z.sq k hk
theorem Zt.sc (h : Zt F ts w w' b l s ks) (k : Dn F ts w' w2 b l s') (hk : ∀ x, x ∈ ks' -> x ∈ ks) : Same ks' w' w2 := h.z.sc k.o hk
theorem Zt.row {gs : List Nat} (h : Zt F ts w w' b l s ks) (k : Only gs w' w2) (hg : ∀ x, x ∈ gs -> w.heap.size <= x) : Zt F ts w w2 b l s ks := ⟨h.z.new k fun x hx => .inr (hg x hx), h.r.own k fun x hx => Nat.lt_of_lt_of_le (h.z.lo b (by simp)) (hg x hx)⟩
theorem Zt.sr {gs : List Nat} (h : Zt F ts w w' b l s ks) (k : Only gs w' w2) (hk : ∀ x, x ∈ ks' -> x ∈ ks) (hg : ∀ x, x ∈ gs -> ∀ y, y ∈ ks' -> y < x) : Same ks' w' w2 := h.z.sm k hk fun x hx => .inr fun y hy e => by have := hg x hx y hy; omega
theorem Zt.ne (h : Zt F ts w w' b l s ks) (hk : k0 ∈ ks) : k0 ≠ b := h.z.ne hk (by simp)
theorem Stay.q {B : Nat} (h : Stay B w w') (k : Only [] w' w2) : Stay B w w2 := h.go k fun x hx => (by cases hx)
theorem Stay.d {B : Nat} (h : Stay B w w') (k : Dn F ts w' w2 b l s') (hb : b < B) : Stay B w w2 := h.go k.o fun x hx => .inl (by simp only [List.mem_singleton] at hx; omega)
theorem Stay.f {B : Nat} (h : Stay B w w') (k : Only [k0] w' w2) (hk : k0 < B ∨ w.heap.size <= k0) : Stay B w w2 := h.go k fun x hx => (by simp only [List.mem_singleton] at hx; subst hx; exact hk)
end
theorem sfine_c (h : Sr F ts w b l s) : Calls Tryz.prog 43 #[rp b] w fun e w' => e = .returned (.bool (s.fc == 0)) /\ Only [] w w' := by
 refine ret (v95w ⟨b, 0, none⟩ (fun v w' => v = (.bool (s.fc == 0)) /\ Only [] w w') w ?_)
 unfold v95v
 exact ⟨s.fc, Blk.at1 h.blk 2 rfl, rfl, Only.refl _ _⟩
theorem sstop_c (h : Sr F ts w b l s) (c : Int) : Calls Tryz.prog 76 #[rp b, .int .i64 c] w fun e w' => e = .returned (.tuple #[]) /\ Dn F ts w w' b l (stopS ts s c) := by
 refine ret (v99w ⟨b, 0, none⟩ c (fun v w' => v = (.tuple #[]) /\ Dn F ts w w' b l (stopS ts s c)) w ?_)
 unfold v99v
 refine (sfine_c h).mono ?_
 rintro _ w0 ⟨rfl, hO0⟩
 refine ⟨_, rfl, fun hc w1 hO1 => ?_, fun hc => ?_⟩
 · have hc : s.fc = 0 := by simpa using hc
   have h1 := h.only (hO0.tr0 hO1)
   obtain ⟨ad, g1, g2⟩ := h1.now
   refine ⟨l, Blk.at1 h1.blk 0 rfl, _, Blk.at1 h1.blk 1 rfl, ad, g1, _, g2.at1 3 _ rfl, b, 2, _, _, rfl, h1.blk, by simp, fun w2 hO2 hB2 => ⟨rfl, ((hO0.tr0 hO1).weaken (bs' := [b]) fun _ h => (by cases h)).trans hO2 fun x hx => .inl hx, ?_⟩⟩
   unfold stopS
   rw [if_pos hc]
   exact h1.turn (s' := { s with fc := c, fa := (tk ts s.i).a }) hO2 hB2 h.lt
 · have hc : s.fc ≠ 0 := by simpa using hc
   unfold stopS
   rw [if_neg hc]
   exact ⟨rfl, h.dn.q hO0⟩
theorem swrong_c (h : Sr F ts w b l s) : Calls Tryz.prog 44 #[rp b] w fun e w' => e = .returned (.tuple #[]) /\ Dn F ts w w' b l (wrongS ts s) := by
 refine ret (v102w ⟨b, 0, none⟩ (fun v w' => v = (.tuple #[]) /\ Dn F ts w w' b l (wrongS ts s)) w ?_)
 unfold v102v
 obtain ⟨ad, g1, g2⟩ := h.now
 refine ⟨fun w' => Dn F ts w w' b l (if (tk ts s.i).k = 5 then stopS ts s 3 else s), fun w0 h0 => (sstop_c h0.r 4).mono ?_, l, Blk.at1 h.blk 0 rfl, _, Blk.at1 h.blk 1 rfl, ad, g1, _, g2.at1 0 _ rfl, fun hc w2 hO2 => ?_, fun hc w2 hO2 => ?_⟩
 · rintro _ w1 ⟨rfl, h1⟩
   refine ⟨rfl, rfl, h0.nx ?_⟩
   unfold wrongS
   split at h1
   · rename_i e; rw [if_pos e]; exact h1
   · rename_i e; rw [if_neg e]; exact h1
 · refine (sstop_c (h.only hO2) 3).mono ?_
   rintro _ w3 ⟨rfl, h3⟩
   have hc : (tk ts s.i).k = 5 := by simpa using hc
   refine ⟨rfl, ?_⟩
   rw [if_pos hc]
   exact (h.dn.q hO2).nx h3
 · have hc : ¬ (tk ts s.i).k = 5 := by simpa using hc
   rw [if_neg hc]
   exact h.dn.q hO2
theorem ixS_c {s : Sl} {w : World} {G : Nat -> Prop} {l : List (List UInt8)} (h : SliceF rTx 1 w G s l) (c : List UInt8) :
  Calls Tryz.prog 120 #[Sl.v s, .string (T c)] w fun r w' => r = .returned (.int .i64 (if ixS c l < l.length then (ixS c l : Int) else -1)) /\ w' = w := by
 refine ret (v84w s _ (fun v w' => v = .int .i64 (if ixS c l < l.length then (ixS c l : Int) else -1) /\ w' = w) w ?_)
 unfold v84v
 have hlen := h.len
 have hbig := h.big
 have hcap := h.cap
 refine ⟨fun nv i w' => ∃ n : Nat, n <= l.length /\ i = (n : Int) /\ nv = l.length - n /\ ixS c l = n + ixS c (l.drop n) /\ w' = w, l.length, ⟨0, Nat.zero_le _, rfl, rfl, by rw [List.drop_zero, Nat.zero_add], rfl⟩, ?_⟩
 rintro nv _ _ ⟨n, hn, rfl, rfl, hp, rfl⟩
 refine ⟨fun hc => ?_, fun hc => ?_⟩
 · have hlt : (n : Int) < s.n := of_decide_eq_true hc
   obtain ⟨ad, x, cs, g1, g2, g3, g4, g5, g6⟩ := h.get (Int.natCast_nonneg n) hlt
   rw [Int.toNat_natCast] at g2
   unfold rTx at g6
   subst g6
   have hd : l.drop n = x :: l.drop (n + 1) := by rw [List.drop_eq_getElem_cons (List.getElem?_eq_some_iff.1 g2).1, (List.getElem?_eq_some_iff.1 g2).2]
   rw [hd, ixS] at hp
   refine ⟨ad, g1, _, g5, ?_⟩
   rw [T_eq]
   refine ⟨fun he => ⟨?_, rfl⟩, fun he => ⟨l.length - (n + 1), by omega, n + 1, by omega, by rw [wr' (by omega) (by omega)]; rfl, rfl, ?_, rfl⟩⟩
   · have he : c = x := of_decide_eq_true he
     rw [if_pos he] at hp
     rw [if_pos (by omega), hp, Nat.add_zero]
   · have he : c ≠ x := of_decide_eq_false he
     rw [if_neg he] at hp
     omega
 · have hge : ¬ ((n : Int) < s.n) := of_decide_eq_false hc
   rw [List.drop_of_length_le (by omega), ixS] at hp
   rw [if_neg (by omega)]
   exact ⟨rfl, rfl⟩
theorem swhich_c (h : Sr F ts w b l s) {G : Nat -> Prop} {q : Sl} {ss : List (List UInt8)} (hs : SliceF rTx 1 w G q ss) : Calls Tryz.prog 78 #[rp b, q.v] w fun e w' => e = .returned (.int .i64 (whichS ts s ss : Nat)) /\ Only [] w w' := by
 refine ret (v101w ⟨b, 0, none⟩ q (fun v w' => v = (.int .i64 (whichS ts s ss : Nat)) /\ Only [] w w') w ?_)
 unfold v101v
 intro w0 hO0
 have h0 := h.only hO0
 obtain ⟨ad, g1, g2⟩ := h0.now
 refine ⟨fun _ => True, trivial, l, Blk.at1 h0.blk 0 rfl, trivial, _, Blk.at1 h0.blk 1 rfl, ad, g1, trivial, _, _, _, _, g2, fun k0 w1 hk hk' hO1 => ?_⟩
 have hO01 := hO0.tr0 hO1
 refine (sfine_c (h0.only hO1)).mono ?_
 rintro _ w2 ⟨rfl, hO2⟩
 have hO02 := hO01.tr0 hO2
 have hc0 : ((!(s.fc == 0)) || (((tk ts s.i).k != 2) && ((tk ts s.i).k != 4))) = decide (s.fc ≠ 0 ∨ ((tk ts s.i).k ≠ 2 /\ (tk ts s.i).k ≠ 4)) := by
  rw [Bool.eq_iff_iff]
  simp
 refine ⟨_, rfl, hO2.same (by simp; omega), ?_⟩
 rw [hc0]
 refine ⟨fun hc => ?_, fun hc => ?_⟩
 · unfold whichS
   rw [if_pos (of_decide_eq_true hc)]
   exact ⟨rfl, hO02⟩
 · refine (ixS_c (SliceF.only rTx_ok (by decide) hs hO02 (by simp)) (tk ts s.i).t).mono ?_
   rintro _ w3 ⟨rfl, rfl⟩
   refine ⟨_, rfl, Same.refl _ _, ?_, hO02⟩
   unfold whichS
   rw [if_neg (of_decide_eq_false hc)]
   have hl := hs.len
   have hb := hs.big
   have hcp := hs.cap
   split
   · rw [wr' (by omega) (by omega)]; rfl
   · rfl
theorem swh_c (h : Sr F ts w b l s) (ss : List (List UInt8)) {n : Nat} {parts : Array (Nat × Value)} (hp : parts = (((ss.map fun x => Value.string (T x)).zipIdx 0).map fun x => (x.2, x.1)).toArray) (hn : ss.length = n) (h0 : 0 < n) (hsm : n * 1 <= 16777216) :
  ∃ (q : Sl) (w0 : World), (Instr.buildSlice 57 n parts).run Tryz.prog w = .ok q.v w0 /\ Only [] w w0 /\ Calls Tryz.prog 78 #[rp b, q.v] w0 fun e w' => e = .returned (.int .i64 (whichS ts s ss : Nat)) /\ Only [] w0 w' := by
 obtain ⟨q, w0, k1, k2, k3⟩ := buildS w ss hp hn h0 hsm
 exact ⟨q, w0, k1, k3, swhich_c (h.only k3) (flatS k2)⟩
theorem stake_c (h : Sr F ts w b l s) {G : Nat -> Prop} {q : Sl} {ss : List (List UInt8)} (hs : SliceF rTx 1 w G q ss) : Calls Tryz.prog 40 #[rp b, q.v] w fun e w' => e = .returned (.int .i64 (whichS ts s ss : Nat)) /\ Dn F ts w w' b l (if whichS ts s ss = 0 then s else nextS s) := by
 refine ret (v100w ⟨b, 0, none⟩ q (fun v w' => v = (.int .i64 (whichS ts s ss : Nat)) /\ Dn F ts w w' b l (if whichS ts s ss = 0 then s else nextS s)) w ?_)
 unfold v100v
 refine (swhich_c h hs).mono ?_
 rintro _ w0 ⟨rfl, hO0⟩
 have h0 := h.only hO0
 refine ⟨_, rfl, fun w' => Dn F ts w w' b l (if whichS ts s ss = 0 then s else nextS s), fun w1 h1 => ⟨rfl, h1⟩, fun hc => ?_, fun hc => ?_⟩
 · have hc : whichS ts s ss ≠ 0 := by have := of_decide_eq_true hc; omega
   refine ⟨_, Blk.at1 h0.blk 1 rfl, b, 1, _, _, rfl, h0.blk, by simp, fun w2 hO2 hB2 => ?_⟩
   rw [if_neg hc]
   rw [h.wr] at hB2
   exact ⟨(hO0.weaken (bs' := [b]) fun _ h => (by cases h)).trans hO2 fun x hx => .inl hx, h0.turn (s' := nextS s) hO2 hB2 (h.en.next h.lt (which_ne hc).2)⟩
 · have hc : whichS ts s ss = 0 := by have := of_decide_eq_false hc; omega
   rw [if_pos hc]
   exact h.dn.q hO0
theorem stk_c (h : Sr F ts w b l s) (ss : List (List UInt8)) {n : Nat} {parts : Array (Nat × Value)} (hp : parts = (((ss.map fun x => Value.string (T x)).zipIdx 0).map fun x => (x.2, x.1)).toArray) (hn : ss.length = n) (h0 : 0 < n) (hsm : n * 1 <= 16777216) :
  ∃ (q : Sl) (w0 : World), (Instr.buildSlice 57 n parts).run Tryz.prog w = .ok q.v w0 /\ Only [] w w0 /\ Calls Tryz.prog 40 #[rp b, q.v] w0 fun e w' => e = .returned (.int .i64 (whichS ts s ss : Nat)) /\ Dn F ts w0 w' b l (if whichS ts s ss = 0 then s else nextS s) := by
 obtain ⟨q, w0, k1, k2, k3⟩ := buildS w ss hp hn h0 hsm
 exact ⟨q, w0, k1, k3, stake_c (h.only k3) (flatS k2)⟩
theorem smust_c (h : Sr F ts w b l s) {G : Nat -> Prop} {q : Sl} {x : List UInt8} (hs : SliceF rTx 1 w G q [x]) (hG : ∀ k, G k -> k ≠ b) : Calls Tryz.prog 38 #[rp b, q.v] w fun e w' => e = .returned (.tuple #[]) /\ Dn F ts w w' b l (mustS ts s x) := by
  refine ret (v97w ⟨b, 0, none⟩ q (fun v w' => v = (.tuple #[]) /\ Dn F ts w w' b l (mustS ts s x)) w ?_)
  unfold v97v
  have hn : q.n = 1 := hs.len
  refine ⟨fun nv i w' => (i = 0 /\ nv = 1 /\ w' = w) ∨ (i = 1 /\ nv = 0 /\ Dn F ts w w' b l (mustS ts s x)), 1, .inl ⟨rfl, rfl, rfl⟩, ?_⟩
  rintro nv i w0 (⟨rfl, rfl, rfl⟩ | ⟨rfl, rfl, hD⟩)
  · refine ⟨fun _ => ?_, fun hc => absurd (of_decide_eq_false hc) (by omega)⟩
    refine ⟨fun w' => Dn F ts w0 w' b l (mustS ts s x), fun w1 h1 => ⟨0, by decide, .inr ⟨rfl, rfl, h1⟩⟩, ?_⟩
    obtain ⟨ad, y, cs, g1, g2, g3, g4, g5, g6⟩ := hs.get (i := 0) (by decide) (by omega)
    simp only [Int.toNat_zero, List.getElem?_cons_zero, Option.some.injEq] at g2
    subst g2
    unfold rTx at g6
    subst g6
    obtain ⟨q0, w2, k1, k2, k3⟩ := stk_c h [x] (n := 1) (parts := #[(0, .string (T x))]) rfl rfl (by decide) (by decide)
    refine ⟨ad, g1, _, g5, q0, w2, k1, k3.mono ?_⟩
    rintro _ w3 ⟨rfl, h3⟩
    have h03 := (h.dn.q k2).nx h3
    refine ⟨_, rfl, fun hc => ?_, fun hc => ?_⟩
    · have hc : whichS ts s [x] = 0 := by have : ((whichS ts s [x] : Nat) : Int) = 0 := by simpa using hc
                                          omega
      rw [if_pos hc] at h03
      refine (swrong_c h03.r).mono ?_
      rintro _ w4 ⟨rfl, h4⟩
      refine ⟨rfl, ?_⟩
      unfold mustS
      rw [if_pos hc]
      exact h03.nx h4
    · have hc : whichS ts s [x] ≠ 0 := fun e => by rw [e] at hc; simp at hc
      rw [if_neg hc] at h03
      unfold mustS
      rw [if_neg hc]
      exact h03
  · exact ⟨fun hc => absurd (of_decide_eq_true hc) (by omega), fun _ => ⟨rfl, hD⟩⟩
theorem sms_c (h : Sr F ts w b l s) (x : List UInt8) : ∃ (q : Sl) (w0 : World), (Instr.buildSlice 57 1 #[.mk 0 (.string (T x))]).run Tryz.prog w = .ok q.v w0 /\ Only [] w w0 /\ Calls Tryz.prog 38 #[rp b, q.v] w0 fun e w' => e = .returned (.tuple #[]) /\ Dn F ts w0 w' b l (mustS ts s x) := by
 obtain ⟨q, w0, k1, k2, k3⟩ := buildS w [x] (n := 1) (parts := #[(0, .string (T x))]) rfl rfl (by decide) (by decide)
 exact ⟨q, w0, k1, k3, smust_c (h.only k3) (flatS k2) fun k hk e => (by have := hk.1; have := h.lb; omega)⟩
theorem skind_c (h : Sr F ts w b l s) {k : Int} (hk5 : k ≠ 5) : Calls Tryz.prog 77 #[rp b, .int .i64 k] w fun e w' => e = .returned (kindS ts s k).1.v /\ Dn F ts w w' b l (kindS ts s k).2 := by
 refine ret (v96w ⟨b, 0, none⟩ k (fun v w' => v = (kindS ts s k).1.v /\ Dn F ts w w' b l (kindS ts s k).2) w ?_)
 unfold v96v
 intro k0 w0 hk hk' hO0
 have z0 := h.z.al hO0 hk hk'
 have h0 := h.only hO0
 obtain ⟨ad, g1, g2⟩ := h0.now
 refine ⟨fun _ => True, trivial, l, Blk.at1 h0.blk 0 rfl, trivial, _, Blk.at1 h0.blk 1 rfl, ad, g1, trivial, _, _, _, _, g2, fun k1 w1 hk1 hk1' hO1 => ?_⟩
 have z1 := z0.al hO1 hk1 hk1'
 refine (sfine_c (h0.only hO1)).mono ?_
 rintro _ w2 ⟨rfl, hO2⟩
 have z2 := z1.q hO2
 have hl := h.lb
 have d2 : Dn F ts w w2 b l s := h.dn.q ((hO0.tr0 hO1).tr0 hO2)
 have hc0 : ((!(s.fc == 0)) || ((tk ts s.i).k != k)) = decide (s.fc ≠ 0 ∨ (tk ts s.i).k ≠ k) := by
  rw [Bool.eq_iff_iff]
  simp
 refine ⟨_, rfl, z1.sq hO2 (by simp), ?_⟩
 rw [hc0]
 refine ⟨fun hc => (swrong_c d2.r).mono ?_, fun hc => ?_⟩
 · rintro _ w3 ⟨rfl, h3⟩
   refine ⟨rfl, z2.sc h3.o (by simp), fun w4 hO4 => ?_⟩
   unfold kindS
   rw [if_pos (of_decide_eq_true hc)]
   exact ⟨rfl, (d2.nx h3).f hO4 hk hl⟩
 · refine ⟨_, Blk.at1 d2.r.blk 1 rfl, b, 1, _, _, rfl, d2.r.blk, by simp, z2.ne (by simp) (by simp), z2.ne (by simp) (by simp), fun w5 hO5 hB5 w6 hO6 => ?_⟩
   have hc := of_decide_eq_false hc
   unfold kindS
   rw [if_neg hc]
   simp only [not_or, Decidable.not_not] at hc
   rw [h.wr] at hB5
   have d5 : Dn F ts w w5 b l (nextS s) := ⟨d2.o.trans hO5 fun x hx => .inl hx, d2.r.turn hO5 hB5 (h.en.next h.lt (by rw [hc.2]; exact hk5))⟩
   exact ⟨rfl, d5.f hO6 hk hl⟩
theorem sname_c (h : Sr F ts w b l s) : Calls Tryz.prog 122 #[rp b] w fun e w' => e = .returned (.string (T (nameS ts s).1)) /\ Dn F ts w w' b l (nameS ts s).2 := by
 refine ret (v98w ⟨b, 0, none⟩ (fun v w' => v = (.string (T (nameS ts s).1)) /\ Dn F ts w w' b l (nameS ts s).2) w ?_)
 unfold v98v
 refine (skind_c h (k := 1) (by decide)).mono ?_
 rintro _ w0 ⟨rfl, h0⟩
 exact ⟨_, _, _, _, rfl, rfl, h0⟩
theorem _root_.Go.Kt.Blk.at0 {w : World} {b : Nat} {t : TypeId} {cs : List Value} {v : Value} (h : Blk w b t cs) (j : Nat) (hx : cs[j]? = some v) : Cells w ⟨b, j, none⟩ [v] := by
 have := Blk.at1 h j hx
 rwa [addr_lit, Nat.zero_add] at this
theorem uses_c (h : Sr F ts w b l s) (j : Nat) (x : Int) (c : Int) (u : Sx) (hx : (sxv l s)[j]? = some (.int .i64 x)) (hx' : (sxv l (stopS ts s c))[j]? = some (.int .i64 x)) (hui : u.i = s.i)
  (hu : sxv l u = splice (sxv l (if x = 0 then stopS ts s c else s)) j [.int .i64 (dec x)]) : Calls Tryz.prog 75 #[rp b, .pointer (some ⟨b, j, none⟩), .int .i64 c] w fun e w' => e = .returned (.tuple #[]) /\ Dn F ts w w' b l u := by
 refine ret (v112w ⟨b, 0, none⟩ _ c (fun v w' => v = (.tuple #[]) /\ Dn F ts w w' b l u) w ?_)
 unfold v112v
 have hj : j + 1 <= 9 := (List.getElem?_eq_some_iff.1 hx).1
 refine ⟨fun w' => Dn F ts w w' b l (if x = 0 then stopS ts s c else s), fun w0 h0 => ?_, _, rfl, x, Blk.at0 h.blk j hx, fun hc => ?_, fun hc => ?_⟩
 · refine ⟨_, rfl, x, Blk.at0 h0.r.blk j (by split <;> assumption), _, rfl, b, j, _, _, rfl, h0.r.blk, hj, fun w1 hO1 hB1 => ⟨rfl, h0.o.trans hO1 fun x hx => .inl hx, h0.r.turn hO1 (s' := u) ?_ (by rw [hui]; exact h.lt)⟩⟩
   rw [hu]
   exact hB1
 · refine (sstop_c h c).mono ?_
   rintro _ w2 ⟨rfl, h2⟩
   have hc : x = 0 := by simpa using hc
   rw [if_pos hc]
   exact ⟨rfl, h2⟩
 · have hc : ¬ x = 0 := by simpa using hc
   rw [if_neg hc]
   exact h.dn
theorem useA_c (h : Sr F ts w b l s) : Calls Tryz.prog 75 #[rp b, .pointer (some ⟨b, 8, none⟩), .int .i64 2] w fun e w' => e = .returned (.tuple #[]) /\ Dn F ts w w' b l (useA ts s) :=
 uses_c h 8 s.a 2 _ rfl (by unfold stopS; split <;> rfl) (useA_i s) (by unfold useA stopS; split <;> (try split) <;> rfl)
theorem useM_c (h : Sr F ts w b l s) : Calls Tryz.prog 75 #[rp b, .pointer (some ⟨b, 7, none⟩), .int .i64 2] w fun e w' => e = .returned (.tuple #[]) /\ Dn F ts w w' b l (useM ts s) :=
 uses_c h 7 s.m 2 _ rfl (by unfold stopS; split <;> rfl) (useM_i s) (by unfold useM stopS; split <;> (try split) <;> rfl)
theorem useN_c (h : Sr F ts w b l s) : Calls Tryz.prog 75 #[rp b, .pointer (some ⟨b, 5, none⟩), .int .i64 2] w fun e w' => e = .returned (.tuple #[]) /\ Dn F ts w w' b l (useN ts s) :=
 uses_c h 5 s.n 2 _ rfl (by unfold stopS; split <;> rfl) (by unfold useN; split; exact stop_i 2; rfl) (by unfold useN stopS; split <;> (try split) <;> rfl)
theorem useV_c (h : Sr F ts w b l s) : Calls Tryz.prog 75 #[rp b, .pointer (some ⟨b, 4, none⟩), .int .i64 2] w fun e w' => e = .returned (.tuple #[]) /\ Dn F ts w w' b l (useV ts s) :=
 uses_c h 4 s.v 2 _ rfl (by unfold stopS; split <;> rfl) (by unfold useV; split; exact stop_i 2; rfl) (by unfold useV stopS; split <;> (try split) <;> rfl)
theorem sexpr_c (h : Sr F ts w b l s) : Calls Tryz.prog 152 #[rp b] w fun e w' => ∃ cs, e = .returned (.agg cs.toArray) /\ rE true w' (Fr w.heap.size) (exprS ts s).1 cs /\ Dn F ts w w' b l (exprS ts s).2 := by
 refine (v94w ⟨b, 0, none⟩ (fun v w' => ∃ cs, v = (.agg cs.toArray) /\ rE true w' (Fr w.heap.size) (exprS ts s).1 cs /\ Dn F ts w w' b l (exprS ts s).2) w ?_).mono (by
  rintro e w' ⟨v, rfl, cs, rfl, h⟩; exact ⟨cs, rfl, h⟩)
 unfold v94v
 intro k0 w0 hk hk' hO0
 have hl := h.lb
 have z0 := h.z.al hO0 hk hk'
 refine (sfine_c (h.only hO0)).mono ?_
 rintro _ w1 ⟨rfl, hO1⟩
 have z1 := z0.q hO1
 have d1 : Dn F ts w w1 b l s := h.dn.q (hO0.tr0 hO1)
 refine ⟨_, rfl, z0.sq hO1 (by simp), fun hc w2 hO2 => ?_, fun hc w3 hO3 => ?_⟩
 · have hc : s.fc ≠ 0 := by simpa using hc
   unfold exprS
   rw [if_pos hc]
   exact ⟨_, rfl, rE0 _ _ _, d1.f hO2 hk hl⟩
 · have hc : ¬ s.fc ≠ 0 := by simpa using hc
   have z3 := z1.q hO3
   have d3 := d1.q hO3
   refine ⟨fun k => k = b, fun w4 hO4 => ⟨rfl, l, Blk.at1 (d3.q hO4).r.blk 0 rfl, fun w5 hO5 => ⟨rfl, _, Blk.at1 ((d3.q hO4).q hO5).r.blk 1 rfl, fun w6 hO6 => ?_⟩⟩⟩
   have z6 := ((z3.q hO4).q hO5).q hO6
   have d6 := ((d3.q hO4).q hO5).q hO6
   have hb6 := d6.r.big
   have hlt := h.lt
   refine (parse_c d6.r.tok (s.i : Int) ⟨by omega, by omega⟩).mono ?_
   rintro _ w7 ⟨cs, rfl, hX, hj, hO7⟩
   have z7 := z6.q hO7
   have d7 := d6.q hO7
   obtain ⟨sl, hcs, _⟩ := hX.cells
   have hsz : w3.heap.size <= w6.heap.size := ((hO4.tr0 hO5).tr0 hO6).size
   refine ⟨_, _, _, _, sl, _, _, _, _, by rw [hcs], z6.sq hO7 (by simp), Newer.only0 hO7, Keeps.only hO7, fun w8 hO8 k1 hk1 hk1' hap => ?_⟩
   obtain ⟨d, hX⟩ := hX.xg
   have hx7 : rE true w7 (fun k => w6.heap.size <= k /\ k < w7.heap.size) (parseA ts s.i).1 cs := ⟨d, hX⟩
   have hk1z : w.heap.size <= k1 := Nat.le_trans z3.o.size hk1
   have hk1b : b < k1 := by omega
   have d8 := d7.q hO8
   have zz6 := z6.o.size
   have zz0 := z0.k k0 (by simp)
   have zw0 := ((hO1.tr0 hO3).tr0 ((hO4.tr0 hO5).tr0 hO6)).size
   have hx8 : ∀ {bs : List Nat} {w9 : World}, Only bs w8 w9 -> (∀ x, x ∈ bs -> x = k1 ∨ x = k0 ∨ x = b) -> rE true w9 (Fr w.heap.size) (parseA ts s.i).1 cs := fun hO9 hb9 =>
    (rE_ok true).mono ((rE_ok true).keep hx7 fun k hkk hlt => (hO9.block k (Nat.lt_of_lt_of_le hlt hO8.size) fun hm => by
     rcases hb9 k hm with rfl | rfl | rfl
     · have := hap.one; omega
     · omega
     · omega).trans (hO8.block k hlt (by simp))) fun k hkk => by have := hkk.1; show w.heap.size <= k; omega
   unfold exprS
   rw [if_neg hc]
   refine ⟨fun h1 w9 hO9 => ?_, fun h1 w12 hO12 => ?_⟩
   · have h1 : (parseA ts s.i).2.2.1 ≠ 0 := by simpa using h1
     have d9 : Dn F ts w w9 b l s := ⟨d8.o.trans hO9 fun x hx => .inr (by simp only [List.mem_cons, List.not_mem_nil, or_false] at hx; omega), d8.r.own hO9 fun x hx => (by simp only [List.mem_cons, List.not_mem_nil, or_false] at hx; omega)⟩
     refine ⟨b, 2, _, _, rfl, d9.r.blk, by simp, by omega, by omega, fun w10 hO10 hB10 w11 hO11 => ?_⟩
     rw [if_pos h1]
     have d10 : Dn F ts w w10 b l { s with fc := (parseA ts s.i).2.2.1, fa := (parseA ts s.i).2.2.2 } := ⟨d9.o.trans hO10 fun x hx => .inl hx, d9.r.turn hO10 hB10 h.lt⟩
     refine ⟨cs, by rw [hcs], ?_, d10.f hO11 hk hl⟩
     exact hx8 (bs := [k1, k0, b]) (((hO9.weaken (bs' := [k1, k0, b]) fun x hx => .inl (by simp only [List.mem_cons, List.not_mem_nil, or_false] at hx ⊢; omega)).trans hO10 fun x hx => .inl (by simp only [List.mem_singleton] at hx; simp [hx])).trans hO11 fun x hx => .inl (by simp only [List.mem_singleton] at hx; simp [hx])) (by simp)
   · have h1 : ¬ (parseA ts s.i).2.2.1 ≠ 0 := by simpa using h1
     have d12 : Dn F ts w w12 b l s := ⟨d8.o.trans hO12 fun x hx => .inr (by simp only [List.mem_cons, List.not_mem_nil, or_false] at hx; omega), d8.r.own hO12 fun x hx => (by simp only [List.mem_cons, List.not_mem_nil, or_false] at hx; omega)⟩
     obtain ⟨hj0, hj1⟩ := hj (by simpa using h1)
     have ej : ((parseA ts s.i).2.1.toNat : Int) = (parseA ts s.i).2.1 := Int.toNat_of_nonneg hj0
     refine ⟨b, 1, _, _, rfl, d12.r.blk, by simp, by omega, by omega, fun w13 hO13 hB13 w14 hO14 => ?_⟩
     rw [if_neg h1]
     have d13 : Dn F ts w w13 b l { s with i := (parseA ts s.i).2.1.toNat } := ⟨d12.o.trans hO13 fun x hx => .inl hx, d12.r.turn hO13 (by dsimp only [sxv]; rw [ej]; exact hB13) (by dsimp only; omega)⟩
     refine ⟨cs, by rw [hcs], ?_, d13.f hO14 hk hl⟩
     exact hx8 (bs := [k1, k0, b]) (((hO12.weaken (bs' := [k1, k0, b]) fun x hx => .inl (by simp only [List.mem_cons, List.not_mem_nil, or_false] at hx ⊢; omega)).trans hO13 fun x hx => .inl (by simp only [List.mem_singleton] at hx; simp [hx])).trans hO14 fun x hx => .inl (by simp only [List.mem_singleton] at hx; simp [hx])) (by simp)
end
theorem nat0 {n : Nat} (h : ((n : Int) == 0) = true) : n = 0 := by simpa using h
theorem nat1 {n : Nat} (h : ((n : Int) == 0) = false) : n ≠ 0 := fun e => by rw [e] at h; simp at h
theorem pos0 {n : Nat} (h : decide ((n : Int) > 0) = false) : n = 0 := by have := of_decide_eq_false h; omega
theorem pos1 {n : Nat} (h : decide ((n : Int) > 0) = true) : n ≠ 0 := by have := of_decide_eq_true h; omega
section
variable {F : Nat -> Prop} {ts : List Tk} {w w' : World} {b : Nat} {l : Sl} {s s' : Sx}
theorem sact_c (h : Sr F ts w b l s) : Calls Tryz.prog 155 #[rp b] w fun e w' => ∃ cs, e = .returned (.agg cs.toArray) /\ rAc true w' (Fr w.heap.size) (actS ts s).1 cs /\ Dn F ts w w' b l (actS ts s).2 := by
 refine (v103w ⟨b, 0, none⟩ (fun v w' => ∃ cs, v = (.agg cs.toArray) /\ rAc true w' (Fr w.heap.size) (actS ts s).1 cs /\ Dn F ts w w' b l (actS ts s).2) w ?_).mono (by
  rintro e w' ⟨v, rfl, cs, rfl, h⟩; exact ⟨cs, rfl, h⟩)
 unfold v103v
 intro k0 w0 hk hk' hO0
 have t0 := h.zt.al hO0 hk hk'
 obtain ⟨ad, g1, _⟩ := h.now
 refine ⟨fun _ => True, fun w1 hO1 => ⟨trivial, l, Blk.at1 (t0.q hO1).r.blk 0 rfl, fun w2 hO2 => ⟨trivial, _, Blk.at1 ((t0.q hO1).q hO2).r.blk 1 rfl, ad, g1, fun w3 hO3 => ?_⟩⟩⟩
 have t3 := ((t0.q hO1).q hO2).q hO3
 refine ⟨trivial, _, (t3.r.tk g1).at1 3 _ rfl, fun w4 hO4 => ?_⟩
 have t4 := t3.q hO4
 obtain ⟨q, w5, e1, hown, hO5⟩ := buildS w4 [wSet, wRaise, wEmit] (n := 3) (parts := #[(0, .string (T wSet)), (1, .string (T wRaise)), (2, .string (T wEmit))]) rfl rfl (by decide) (by decide)
 refine ⟨q, w5, e1, t4.sq hO5 (by simp), Newer.only0 hO5, Keeps.only hO5, fun w6 hO6 => ?_⟩
 have t6 := (t4.q hO5).q hO6
 refine (swhich_c t6.r (SliceF.only rTx_ok (by decide) (flatS hown) hO6 (by simp))).mono ?_
 rintro _ w7 ⟨rfl, hO7⟩
 have t7 := t6.q hO7
 refine ⟨_, rfl, t6.sq hO7 (by simp), Newer.only0 hO7, Keeps.only hO7, fun w8 hO8 k1 hk1 hk1' hap => ?_⟩
 have t8 := (t7.q hO8).ad (Nat.le_trans t0.z.o.size hk1) hk1'
 refine ⟨fun hc w9 hO9 => ?_, fun hc w12 hO12 => ?_⟩
 · have t9 := t8.f hO9 (by simp)
   refine (swrong_c t9.r).mono ?_
   rintro _ w10 ⟨rfl, h10⟩
   refine ⟨rfl, t9.sc h10 (by simp), fun w11 hO11 => ?_⟩
   have hc := nat0 hc
   unfold actS
   rw [if_pos hc, hc]
   exact ⟨_, rfl, ⟨exv 0 0 [] 0 Sl.nil 0, rfl, rE0 _ _ _⟩, ((t9.nx h10).f hO11 (by simp)).dn⟩
 · have hc := nat1 hc
   have t12 := t8.f hO12 (by simp)
   refine (useA_c t12.r).mono ?_
   rintro _ w13 ⟨rfl, h13⟩
   have t13 := t12.nx h13
   refine ⟨rfl, t12.sc h13 (by simp), (sfine_c t13.r).mono ?_⟩
   rintro _ w14 ⟨rfl, hO14⟩
   have t14 := t13.q hO14
   unfold actS
   rw [if_neg hc]
   refine ⟨_, rfl, t13.sq hO14 (by simp), fun hf w15 hO15 => ?_, fun hf => ?_⟩
   · have hf : (useA ts s).fc ≠ 0 := by simpa using hf
     rw [if_pos hf]
     exact ⟨_, rfl, ⟨exv 0 0 [] 0 Sl.nil 0, rfl, rE0 _ _ _⟩, (t14.f hO15 (by simp)).dn⟩
   · have hf : ¬ (useA ts s).fc ≠ 0 := by simpa using hf
     rw [if_neg hf]
     refine ⟨_, Blk.at1 t14.r.blk 1 rfl, b, 1, _, _, rfl, t14.r.blk, by simp, t14.ne (by simp), t14.ne (by simp), fun w16 hO16 hB16 => ?_⟩
     rw [t14.r.wr] at hB16
     have t16 : Zt F ts w w16 b l (nextS (useA ts s)) [k1, k0] := t14.up hO16 hB16 (h.en.next t14.r.lt (by rw [useA_i]; exact (which_ne hc).2))
     refine (sname_c t16.r).mono ?_
     rintro _ w17 ⟨rfl, h17⟩
     have t17 := t16.nx h17
     refine ⟨_, rfl, t16.sc h17 (by simp), fun w18 hO18 => ?_⟩
     have t18 := t17.f hO18 (by simp)
     generalize (nameS ts (nextS (useA ts s))).2 = u at *
     generalize (nameS ts (nextS (useA ts s))).1 = nm at *
     generalize whichS ts s [wSet, wRaise, wEmit] = kk at *
     generalize (tk ts s.i).a = aa at *
     refine ⟨fun i4 s1 i5 i6 s2 i7 l2 i8 i9 w' => ∃ (x : Ex) (u' : Sx), i4 = (kk : Int) /\ s1 = T nm /\ i9 = aa /\ rE true w' (Fr w18.heap.size) x [.int .i64 i5, .int .i64 i6, .string s2, .int .i64 i7, l2.v, .int .i64 i8] /\ Zt F ts w w' b l u' [k1, k0] /\ actT ts u kk nm aa = (⟨kk, nm, x, aa⟩, mustS ts u' [59]) /\ w18.heap.size <= w'.heap.size, ?_, fun hk2 => ?_, fun hk2 => ?_⟩
     · rintro i4 s1 i5 i6 s2 i7 l2 i8 i9 w19 ⟨x, u', rfl, rfl, rfl, hx, t19, hT, hsz⟩
       obtain ⟨q, w20, e1, hO20, hm⟩ := sms_c t19.r [59]
       refine ⟨q, w20, e1, t19.sq hO20 (by simp), hm.mono ?_⟩
       rintro _ w21 ⟨rfl, h21⟩
       have t20 := t19.q hO20
       refine ⟨rfl, t20.sc h21 (by simp), fun w22 hO22 => ?_⟩
       rw [hT]
       have zk := t18.z.k k0 (by simp)
       have zs := t18.z.o.size
       have zb := t18.r.lb
       refine ⟨_, rfl, ⟨[.int .i64 i5, .int .i64 i6, .string s2, .int .i64 i7, l2.v, .int .i64 i8], rfl, ?_⟩, ((t20.nx h21).f hO22 (by simp)).dn⟩
       exact (rE_ok true).low ((rE_ok true).stay hx ((((Stay.refl _ _).q hO20).d h21 zb).f hO22 (.inl zk.2))) zs
     · have hk2 : ¬ kk = 2 := fun e => by rw [e] at hk2; simp at hk2
       obtain ⟨q, w23, e1, hO23, hm⟩ := sms_c t18.r [61]
       refine ⟨q, w23, e1, t18.sq hO23 (by simp), hm.mono ?_⟩
       rintro _ w24 ⟨rfl, h24⟩
       have t23 := t18.q hO23
       have t24 := t23.nx h24
       refine ⟨rfl, t23.sc h24 (by simp), (sexpr_c t24.r).mono ?_⟩
       rintro _ w25 ⟨cs, rfl, hx, h25⟩
       obtain ⟨sl, rfl⟩ := rE_cells hx
       have t25 := t24.nx h25
       refine ⟨_, _, _, _, sl, _, rfl, t24.sc h25 (by simp), fun w26 hO26 => ?_⟩
       have z24 : w18.heap.size <= w24.heap.size := Nat.le_trans hO23.size h24.o.size
       have zk := t18.z.k k1 (by simp)
       refine ⟨_, _, rfl, rfl, rfl, (rE_ok true).low ((rE_ok true).stay hx ((Stay.refl _ _).f hO26 (.inl (by omega)))) z24, t25.f hO26 (by simp), ?_, Nat.le_trans z24 (Nat.le_trans h25.o.size hO26.size)⟩
       unfold actT
       rw [if_neg hk2]
     · have hk2 : (kk : Int) = 2 := by simpa using hk2
       have hk2 : kk = 2 := by omega
       refine ⟨ex0, u, rfl, rfl, rfl, rE0 _ _ _, t18, ?_, Nat.le_refl _⟩
       unfold actT
       rw [if_pos hk2]
abbrev AcO (B : Nat) (w : World) (la : Sl) (acc : List Ac) : Prop := Own (rAc true) 9 173 B w (Fr B) la acc
structure Br (F : Nat -> Prop) (ts : List Tk) (w w' : World) (b : Nat) (l : Sl) (k0 k1 B : Nat) (s : Sx) (acc : List Ac) (la : Sl) : Prop where
 r : Sr F ts w' b l s
 b0 : Blk w' k0 82 [rp b]
 b1 : Blk w' k1 23 [la.v]
 own : AcO B w' la acc
 o : ∃ gs, Only (b :: k1 :: gs) w w' /\ ∀ x, x ∈ gs -> B <= x
 n0 : b < k0
 n1 : b < k1
 n01 : k0 ≠ k1
 l0 : k0 < B
 l1 : k1 < B
 lB : B <= w'.heap.size
section
variable {k0 k1 B : Nat} {acc : List Ac} {la : Sl} {w2 : World}
theorem Br.nx (h : Br F ts w w' b l k0 k1 B s acc la) (k : Dn F ts w' w2 b l s') : Br F ts w w2 b l k0 k1 B s' acc la := by
 have n0 := h.n0
 have n1 := h.n1
 have l0 := h.l0
 obtain ⟨gs, h1, h2⟩ := h.o
 exact ⟨k.r, k.o.blk h.b0 (by simp only [List.mem_singleton]; omega), k.o.blk h.b1 (by simp only [List.mem_singleton]; omega), h.own.stay (rAc_ok true) k.o fun x hx => .inl (by simp only [List.mem_singleton] at hx; omega),
  ⟨gs, h1.trans k.o fun x hx => .inl (by simp only [List.mem_singleton] at hx; simp [hx]), h2⟩, n0, n1, h.n01, l0, h.l1, Nat.le_trans h.lB k.o.size⟩
theorem Br.q (h : Br F ts w w' b l k0 k1 B s acc la) (k : Only [] w' w2) : Br F ts w w2 b l k0 k1 B s acc la := h.nx (h.r.dn.q k)
theorem blk1_c (h : Br F ts w w' b l k0 k1 B s acc la) (hm : acc.length < ts.length) : Calls Tryz.prog 154 #[.pointer (some ⟨k1, 0, none⟩), .pointer (some ⟨k0, 0, none⟩)] w' fun e w2 => e = .returned (.tuple #[]) /\ ∃ la', Br F ts w w2 b l k0 k1 B (actS ts s).2 (acc ++ [(actS ts s).1]) la' := by
 refine ret (v104w ⟨k1, 0, none⟩ ⟨k0, 0, none⟩ (fun v w2 => v = (.tuple #[]) /\ ∃ la', Br F ts w w2 b l k0 k1 B (actS ts s).2 (acc ++ [(actS ts s).1]) la') w' ?_)
 unfold v104v
 intro w0 hO0
 have h0 := h.q hO0
 have n1 := h.n1
 have l1 := h.l1
 refine ⟨fun k => k = k1, rfl, la, h0.b1.at0 0 rfl, _, h0.b0.at0 0 rfl, (sact_c h0.r).mono ?_⟩
 rintro _ w1 ⟨cs, rfl, hx, h1⟩
 have hb1 := h0.nx h1
 generalize hac : (actS ts s).1 = ac at *
 generalize (actS ts s).2 = s1 at *
 have hx' := hx
 obtain ⟨xc, rfl, hxe⟩ := hx'
 obtain ⟨sl, rfl⟩ := rE_cells hxe
 have hsm := h.r.sm
 have hl0 := h0.own.len
 obtain ⟨y, w2, e2, hO2, la', w3, e3, hown, ⟨gs, hO3, hgs⟩, _⟩ := app_one (P := Tryz.prog) (t := 23) (ty := 23) (e := 173) (i := Tryz.t173) (bytes := 104) (size := 9) (v := .agg (acv ac.k ac.n (exv ac.x.k ac.x.n ac.x.s ac.x.op sl ac.x.a) ac.a).toArray) (x := ac) (G := Fr w0.heap.size) (by kernel_rfl) (by kernel_rfl) rfl rfl rfl rfl (by decide) (by decide) (by decide) (rAc_ok true) hb1.own hb1.lB rfl hx (fun k hk _ => ⟨Nat.le_trans h0.lB hk, h0.own.new hk⟩) (by omega)
 have hO3' : Only gs w1 w3 := (hO2.weaken (bs' := gs) fun _ h => (by cases h)).trans hO3 fun x hx => .inl hx
 have hgs' : ∀ g, g ∈ gs -> B <= g := fun g hg => (hgs g hg).2.1
 refine ⟨_, _, _, _, _, _, sl, _, _, rfl, fun k hk hlt => (by subst hk; exact h1.o.block k hlt (by simp only [List.mem_singleton]; omega)), y, w2, e2, Keeps.only hO2, la', w3, e3, fun k hk hlt => (by subst hk; exact hO3.block k hlt fun hm => (by have := hgs' k hm; omega)), k1, 0, _, _, rfl, hO3'.blk hb1.b1 (fun hm => by have := hgs' k1 hm; omega), by simp, fun w4 hO4 hB4 => ⟨rfl, la', ?_⟩⟩
 have n0 := h.n0
 have n01 := h.n01
 have l0 := h.l0
 have z3 := hO3'.size
 have z4 := hO4.size
 have hlB := hb1.lB
 have hOb : ∀ {x : Nat}, x < B -> x ≠ k1 -> w4.heap[x]? = w1.heap[x]? := fun hx hn => (hO4.block _ (by omega) (by simpa using hn)).trans (hO3'.block _ (by omega) fun hm => (by have := hgs' _ hm; omega))
 obtain ⟨gs0, o1, o2⟩ := hb1.o
 have hr3 : Sr F ts w3 b l s1 := hb1.r.own hO3' fun x hx => (by have := hgs' x hx; omega)
 refine ⟨hr3.one hO4 n1, (hOb l0 n01).trans hb1.b0, hB4, ?_, ⟨gs ++ gs0, (((o1.weaken (bs' := b :: k1 :: (gs ++ gs0)) fun x hx => .inl (by simp only [List.mem_cons, List.mem_append] at hx ⊢; rcases hx with hx | hx | hx <;> simp [hx])).trans hO3' fun x hx => .inl (by simp [hx]))).trans hO4 fun x hx => .inl (by simp only [List.mem_singleton] at hx; simp [hx]), fun x hx => ?_⟩, n0, n1, n01, l0, l1, by omega⟩
 · refine ((hown.mono (rAc_ok true) fun k hk => ?_).stay (rAc_ok true) hO4 fun x hx => .inl (by simp only [List.mem_singleton] at hx; omega))
   rcases hk with hk | hk
   · exact hk
   · exact Nat.le_trans hlB hk
 · rcases List.mem_append.1 hx with hx | hx
   · exact hgs' x hx
   · exact o2 x hx
theorem suntil_c (f : Nat) (h : Br F ts w w' b l k0 k1 B s acc la) (hf : mu ts s < f) (hm : acc.length + mu ts s <= ts.length) :
  Calls Tryz.prog 153 #[rp b, .string (ByteArray.mk #[125]), .func (.func 154) #[] #[.pointer (some ⟨k1, 0, none⟩), .pointer (some ⟨k0, 0, none⟩)]] w' fun e w2 => e = .returned (.tuple #[]) /\ ∃ la', Br F ts w w2 b l k0 k1 B (actsS ts f acc s).2 (actsS ts f acc s).1 la' := by
 refine ret (v111w ⟨b, 0, none⟩ _ ⟨.func (.func 154) #[] #[.pointer (some ⟨k1, 0, none⟩), .pointer (some ⟨k0, 0, none⟩)], rfl⟩ (fun v w2 => v = (.tuple #[]) /\ ∃ la', Br F ts w w2 b l k0 k1 B (actsS ts f acc s).2 (actsS ts f acc s).1 la') w' ?_)
 unfold v111v
 generalize hres : actsS ts f acc s = res
 refine ⟨fun nv w2 => ∃ s' acc' la', Br F ts w w2 b l k0 k1 B s' acc' la' /\ actsS ts nv acc' s' = res /\ mu ts s' < nv /\ acc'.length + mu ts s' <= ts.length, f, ⟨s, acc, la, h, hres, hf, hm⟩, ?_⟩
 rintro nv w0 ⟨s', acc', la', h0, hR, hf0, hm0⟩
 obtain ⟨m, rfl⟩ : ∃ m, nv = m + 1 := ⟨nv - 1, by omega⟩
 rw [actsS] at hR
 refine ⟨fun bo w2 => (bo = true /\ s'.fc = 0 /\ whichS ts s' [[125]] = 0 /\ Br F ts w w2 b l k0 k1 B s' acc' la') ∨ (bo = false /\ Br F ts w w2 b l k0 k1 B res.2 res.1 la'), ?_, (sfine_c h0.r).mono ?_⟩
 · rintro bo w1 (⟨rfl, hfc, hw, h1⟩ | ⟨rfl, h1⟩)
   · refine ⟨fun _ => ⟨154, [], [_, _], rfl, fnOk_run (by kernel_rfl), ?_⟩, fun hh => (by cases hh)⟩
     rw [if_neg (by simp [hfc]), if_neg (by simp [hw])] at hR
     have hmu := act_mu h0.r.en hfc h0.r.lt
     have hmm : mu ts s' <= ts.length := by unfold mu; split <;> omega
     refine (blk1_c h1 (by omega)).mono ?_
     rintro _ w3 ⟨rfl, la2, h3⟩
     exact ⟨rfl, m, by omega, _, _, la2, h3, hR, by omega, by rw [List.length_append, List.length_singleton]; omega⟩
   · exact ⟨fun hh => (by cases hh), fun _ => ⟨rfl, la', h1⟩⟩
 · rintro _ w4 ⟨rfl, hO4⟩
   have h4 := h0.q hO4
   refine ⟨_, rfl, fun hc => ?_, fun hc => ?_⟩
   · have hc : s'.fc = 0 := by simpa using hc
     rw [if_neg (by simp [hc])] at hR
     obtain ⟨q, w5, e1, hO5, hk⟩ := stk_c h4.r [[125]] (n := 1) (parts := #[(0, .string (T [125]))]) rfl rfl (by decide) (by decide)
     refine ⟨q, w5, e1, hk.mono ?_⟩
     rintro _ w6 ⟨rfl, h6⟩
     have h6 := (h4.q hO5).nx h6
     refine ⟨_, rfl, ?_⟩
     by_cases hw : whichS ts s' [[125]] = 0
     · rw [if_pos hw] at h6
       exact .inl ⟨by rw [hw]; rfl, hc, hw, h6⟩
     · rw [if_neg hw] at h6
       rw [if_pos hw] at hR
       subst hR
       exact .inr ⟨by simpa using hw, h6⟩
   · have hc : s'.fc ≠ 0 := by simpa using hc
     rw [if_pos hc] at hR
     subst hR
     exact .inr ⟨rfl, h4⟩
end
theorem sblock_c (h : Sr F ts w b l s) : Calls Tryz.prog 123 #[rp b] w fun e w' => ∃ la : Sl, e = .returned la.v /\ SlG true (rAc true) 9 173 w' (Fr w.heap.size) la (blockS ts s).1 /\ Dn F ts w w' b l (blockS ts s).2 := by
 refine (v105w ⟨b, 0, none⟩ (fun v w' => ∃ la : Sl, v = la.v /\ SlG true (rAc true) 9 173 w' (Fr w.heap.size) la (blockS ts s).1 /\ Dn F ts w w' b l (blockS ts s).2) w ?_).mono (by
  rintro e w' ⟨v, rfl, cs, rfl, h⟩; exact ⟨cs, rfl, h⟩)
 unfold v105v
 intro k0 k1 w0 hk0 hk0' hk1 hk1' hO0
 have t0 := ((h.zt.q hO0).ad hk0 hk0').ad hk1 hk1'
 obtain ⟨q, w1, e1, hO1, hm⟩ := sms_c t0.r [123]
 refine ⟨q, w1, e1, t0.sq hO1 (by simp), hm.mono ?_⟩
 rintro _ w2 ⟨rfl, h2⟩
 have t1 := t0.q hO1
 have t2 := t1.nx h2
 refine ⟨rfl, t1.sc h2 (by simp), fun hB0 hB1 => ?_⟩
 have hb := h.lb
 have hB : Br F ts w2 w2 b l k0 k1 w2.heap.size (mustS ts s [123]) [] Sl.nil :=
  ⟨t2.r, hB0, hB1, Own.nil _ _ _ _ _ _, ⟨[], Only.refl _ _, fun _ h => (by cases h)⟩, by omega, by omega, fun e => (by subst e; have := hB0.symm.trans hB1; simp at this), hB0.lt, hB1.lt, Nat.le_refl _⟩
 refine (suntil_c (ts.length + 1) hB (by unfold mu; split <;> omega) (by rw [List.length_nil, Nat.zero_add]; unfold mu; split <;> omega)).mono ?_
 rintro _ w3 ⟨rfl, la, h3⟩
 have z2 := t2.z.o.size
 obtain ⟨gs, o1, o2⟩ := h3.o
 refine ⟨rfl, _, h3.b0, _, h3.b1, la, rfl, ?_, ?_, h3.r⟩
 · exact (h3.own.sl (rAc_ok true) fun k hk => hk).low (rAc_ok true) z2
 · exact t2.z.o.trans o1 fun x hx => by
    simp only [List.mem_cons] at hx
    rcases hx with rfl | rfl | hx
    · exact .inl (by simp)
    · exact .inr hk1
    · exact .inr (Nat.le_trans z2 (o2 x hx))
end
section
variable {F : Nat -> Prop} {ts : List Tk} {w w' : World} {b : Nat} {l : Sl} {s s' : Sx}
structure MvX (A : Nat) (w : World) (m : Mv) (k : Int) (ev : ByteArray) (wt : Int) (gd : Bool) (gc : List Value) (asl : Sl) (a : Int) : Prop where
 e1 : k = m.k
 e2 : ev = T m.ev
 e3 : wt = m.wt
 e4 : gd = m.gd
 e5 : a = m.a
 g : rE true w (Fr A) m.g gc
 x : SlG true (rAc true) 9 173 w (Fr A) asl m.acts
theorem MvX.stay {A : Nat} {m : Mv} {k : Int} {ev : ByteArray} {wt : Int} {gd : Bool} {gc : List Value} {asl : Sl} {a : Int} (h : MvX A w m k ev wt gd gc asl a) (hs : Stay A w w') : MvX A w' m k ev wt gd gc asl a :=
 ⟨h.e1, h.e2, h.e3, h.e4, h.e5, (rE_ok true).stay h.g hs, h.x.stay (rAc_ok true) (by decide) hs⟩
theorem mu_le (ts : List Tk) (s : Sx) : mu ts s <= ts.length := by unfold mu; split <;> omega
theorem which_next (h : Sr F ts w b l s) {ss : List (List UInt8)} (hw : whichS ts s ss ≠ 0) : s.i + 1 < ts.length := h.en.next h.lt (which_ne hw).2
theorem smove_c (h : Sr F ts w b l s) (k : Int) (hk : (tk ts s.i).k ≠ 5) : Calls Tryz.prog 121 #[rp b, .int .i64 k] w fun e w' => ∃ cs, e = .returned (.agg cs.toArray) /\ rMv true w' (Fr w.heap.size) (moveS ts k s).1 cs /\ Dn F ts w w' b l (moveS ts k s).2 := by
 refine (v108w ⟨b, 0, none⟩ k (fun v w' => ∃ cs, v = (.agg cs.toArray) /\ rMv true w' (Fr w.heap.size) (moveS ts k s).1 cs /\ Dn F ts w w' b l (moveS ts k s).2) w ?_).mono (by
  rintro e w' ⟨v, rfl, cs, rfl, h⟩; exact ⟨cs, rfl, h⟩)
 unfold v108v
 intro k0 w0 hk0 hk0' hO0
 have t0 := h.zt.al hO0 hk0 hk0'
 obtain ⟨ad, g1, g2⟩ := t0.r.now
 refine ⟨fun _ => True, trivial, l, Blk.at1 t0.r.blk 0 rfl, trivial, _, Blk.at1 t0.r.blk 1 rfl, ad, g1, trivial, _, g2.at1 3 _ rfl, fun k1 w1 hk1 hk1' hO1 => ?_⟩
 have t1 := t0.al hO1 hk1 hk1'
 refine (useM_c t1.r).mono ?_
 rintro _ w2 ⟨rfl, h2⟩
 have t2 := t1.nx h2
 refine ⟨rfl, t1.sc h2 (by simp), (sfine_c t2.r).mono ?_⟩
 rintro _ w3 ⟨rfl, hO3⟩
 have t3 := t2.q hO3
 unfold moveS
 refine ⟨_, rfl, t2.sq hO3 (by simp), fun hf w4 hO4 => ?_, fun hf => ?_⟩
 · have hf : (useM ts s).fc ≠ 0 := by simpa using hf
   rw [if_pos hf]
   exact ⟨_, rfl, ⟨exv 0 0 [] 0 Sl.nil 0, Sl.nil, Sl.nil, rfl, rE0 _ _ _, SlG.nil _ _ _ _ _ _, SlG.nil _ _ _ _ _ _⟩, (t3.f hO4 (by simp)).dn⟩
 have hf : ¬ (useM ts s).fc ≠ 0 := by simpa using hf
 rw [if_neg hf]
 refine ⟨_, Blk.at1 t3.r.blk 1 rfl, b, 1, _, _, rfl, t3.r.blk, by simp, t3.ne (by simp), t3.ne (by simp), fun w5 hO5 hB5 => ?_⟩
 rw [t3.r.wr] at hB5
 have t5 : Zt F ts w w5 b l (nextS (useM ts s)) [k1, k0] := t3.up hO5 hB5 (h.en.next t3.r.lt (by rw [useM_i]; exact hk))
 have hA := t5.z.o.size
 have hA0 := (t5.z.k k0 (by simp)).2
 have hA1 := (t5.z.k k1 (by simp)).2
 have hAb := t5.r.lb
 generalize hAA : w5.heap.size = A at *
 generalize (tk ts s.i).a = aa at *
 generalize nextS (useM ts s) = u0 at *
 generalize hR : (if k = 1 then moveA ts { mv0 k aa with ev := (nameS ts u0).1 } (nameS ts u0).2 else if k = 3 then moveA ts { mv0 k aa with wt := (kindS ts u0 3).1.n } (kindS ts u0 3).2 else moveA ts (mv0 k aa) u0) = R
 have x0 : ∀ {w' : World} {ev : List UInt8} {wt : Int}, MvX A w' { mv0 k aa with ev := ev, wt := wt } k (T ev) wt false (exv 0 0 [] 0 Sl.nil 0) Sl.nil aa := ⟨rfl, rfl, rfl, rfl, rfl, rE0 _ _ _, SlG.nil _ _ _ _ _ _⟩
 refine ⟨fun i3 s0 i4 b1 i5 i6 s1 i7 l1 i8 l2 l3 i9 w' => ∃ (m : Mv) (u : Sx), MvX A w' m i3 s0 i4 b1 [.int .i64 i5, .int .i64 i6, .string s1, .int .i64 i7, l1.v, .int .i64 i8] l2 i9 /\ m.gd = false /\ m.tg = [] /\ l3 = Sl.nil /\ Zt F ts w w' b l u [k1, k0] /\ moveA ts m u = R /\ A <= w'.heap.size, ?_, fun hc => ?_, fun hc => ⟨fun hc2 => ?_, fun hc2 => ?_⟩⟩
 rotate_left
 · have hc : k = 1 := by simpa using hc
   refine (sname_c t5.r).mono ?_
   rintro _ w32 ⟨rfl, h32⟩
   have t32 := t5.nx h32
   refine ⟨_, rfl, t5.sc h32 (by simp), fun w33 hO33 => ?_⟩
   rw [if_pos hc] at hR
   exact ⟨_, _, x0, rfl, rfl, rfl, t32.f hO33 (by simp), hR, by rw [<- hAA]; exact Nat.le_trans h32.o.size hO33.size⟩
 · have hc : ¬ k = 1 := by simpa using hc
   have hc2 : k = 3 := by simpa using hc2
   refine (skind_c t5.r (k := 3) (by decide)).mono ?_
   rintro _ w34 ⟨rfl, h34⟩
   have t34 := t5.nx h34
   refine ⟨_, _, _, _, rfl, t5.sc h34 (by simp), fun w35 hO35 => ?_⟩
   rw [if_neg hc, if_pos hc2] at hR
   exact ⟨_, _, x0, rfl, rfl, rfl, t34.f hO35 (by simp), hR, by rw [<- hAA]; exact Nat.le_trans h34.o.size hO35.size⟩
 · have hc : ¬ k = 1 := by simpa using hc
   have hc2 : ¬ k = 3 := by simpa using hc2
   rw [if_neg hc, if_neg hc2] at hR
   exact ⟨_, _, x0, rfl, rfl, rfl, t5, hR, Nat.le_of_eq hAA.symm⟩
 rintro i3 s0 i4 b1 i5 i6 s1 i7 l1 i8 l2 l3 i9 w6 ⟨m, u, hx, hgd, htg, rfl, t6, hR, z6⟩
 unfold moveA at hR
 obtain ⟨q, w24, e1, hO24, hm⟩ := stk_c t6.r [[91]] (n := 1) (parts := #[(0, .string (T [91]))]) rfl rfl (by decide) (by decide)
 have t24 := t6.q hO24
 refine ⟨fun i3 s0 i4 b1 i5 i6 s1 i7 l1 i8 l2 l3 i9 w' => ∃ (m : Mv) (u : Sx), MvX A w' m i3 s0 i4 b1 [.int .i64 i5, .int .i64 i6, .string s1, .int .i64 i7, l1.v, .int .i64 i8] l2 i9 /\ m.tg = [] /\ l3 = Sl.nil /\ Zt F ts w w' b l u [k1, k0] /\ moveB ts m u = R /\ A <= w'.heap.size, ?_, q, w24, e1, t6.sq hO24 (by simp), hm.mono ?_⟩
 rotate_left
 · rintro _ w25 ⟨rfl, h25⟩
   have t25 := t24.nx h25
   have s25 : Stay A w6 w25 := ((Stay.refl A w6).q hO24).d h25 hAb
   refine ⟨_, rfl, t24.sc h25 (by simp), fun hc w26 hO26 => ?_, fun hc w31 hO31 => ?_⟩
   · have hc' := pos1 hc
     rw [if_neg hc'] at hR t25
     have t26 := t25.f hO26 (by simp)
     have s26 := s25.f hO26 (.inl hA1)
     have z26 := s26.sz
     refine (sexpr_c t26.r).mono ?_
     rintro _ w27 ⟨cs, rfl, hg, h27⟩
     obtain ⟨sl, rfl⟩ := rE_cells hg
     have t27 := t26.nx h27
     refine ⟨_, _, _, _, sl, _, rfl, t26.sc h27 (by simp), fun w28 hO28 => ?_⟩
     have t28 := t27.f hO28 (by simp)
     obtain ⟨q2, w29, e2, hO29, hm2⟩ := sms_c t28.r [93]
     have t29 := t28.q hO29
     refine ⟨q2, w29, e2, t28.sq hO29 (by simp), hm2.mono ?_⟩
     rintro _ w30 ⟨rfl, h30⟩
     have t30 := t29.nx h30
     have s30 := (((s26.d h27 hAb).f hO28 (.inl hA1)).q hO29).d h30 hAb
     refine ⟨rfl, t29.sc h30 (by simp), { m with gd := true, g := (exprS ts (nextS u)).1 }, _, ⟨hx.e1, hx.e2, hx.e3, hc, hx.e5, ?_, hx.x.stay (rAc_ok true) (by decide) s30⟩, htg, rfl, t30, hR, Nat.le_trans z6 s30.sz⟩
     exact (rE_ok true).low ((rE_ok true).stay hg ((((Stay.refl _ _).f hO28 (.inl (by omega))).q hO29).d h30 (by omega))) (by omega)
   · have hc' := pos0 hc
     rw [if_pos hc'] at hR t25
     have s31 := s25.f hO31 (.inl hA1)
     have hx31 := hx.stay s31
     exact ⟨m, u, ⟨hx31.e1, hx31.e2, hx31.e3, by rw [hc, hgd], hx31.e5, hx31.g, hx31.x⟩, htg, rfl, t25.f hO31 (by simp), hR, Nat.le_trans z6 s31.sz⟩
 clear hx hgd htg t6 hR z6 hm t24
 rintro i3 s0 i4 b1 i5 i6 s1 i7 l1 i8 l2 l3 i9 w7 ⟨m, u, hx, htg, rfl, t7, hR, z7⟩
 unfold moveB at hR
 obtain ⟨q, w20, e1, hO20, hm⟩ := swh_c t7.r [[123]] (n := 1) (parts := #[(0, .string (T [123]))]) rfl rfl (by decide) (by decide)
 have t20 := t7.q hO20
 refine ⟨fun i3 s0 i4 b1 i5 i6 s1 i7 l1 i8 l2 l3 i9 w' => ∃ (m : Mv) (u : Sx), MvX A w' m i3 s0 i4 b1 [.int .i64 i5, .int .i64 i6, .string s1, .int .i64 i7, l1.v, .int .i64 i8] l2 i9 /\ l3 = Sl.nil /\ Zt F ts w w' b l u [k1, k0] /\ moveC ts m u = R /\ A <= w'.heap.size, ?_, q, w20, e1, t7.sq hO20 (by simp), hm.mono ?_⟩
 rotate_left
 · rintro _ w21 ⟨rfl, hO21⟩
   have t21 := t20.q hO21
   have s21 : Stay A w7 w21 := ((Stay.refl A w7).q hO20).q hO21
   have z21 := s21.sz
   refine ⟨_, rfl, t20.sq hO21 (by simp), fun hc => (sblock_c t21.r).mono ?_, fun hc => ?_⟩
   · rw [if_neg (pos1 hc)] at hR
     rintro _ w22 ⟨la, rfl, hla, h22⟩
     have t22 := t21.nx h22
     refine ⟨la, rfl, t21.sc h22 (by simp), fun w23 hO23 => ?_⟩
     have s23 := (s21.d h22 hAb).f hO23 (.inl hA1)
     refine ⟨{ m with acts := (blockS ts u).1 }, _, ⟨hx.e1, hx.e2, hx.e3, hx.e4, hx.e5, (rE_ok true).stay hx.g s23, ?_⟩, rfl, t22.f hO23 (by simp), hR, Nat.le_trans z7 s23.sz⟩
     exact (hla.stay (rAc_ok true) (by decide) ((Stay.refl _ _).f hO23 (.inl (by omega)))).low (rAc_ok true) (by omega)
   · rw [if_pos (pos0 hc)] at hR
     exact ⟨m, u, hx.stay s21, rfl, t21, hR, Nat.le_trans z7 z21⟩
 clear hx htg t7 hR z7 hm t20
 rintro i17 s4 i18 b3 i19 i20 s5 i21 l7 i22 l8 l9 i23 w8 ⟨m, u, hx, rfl, t8, hR, z8⟩
 unfold moveC at hR
 have hb8 : b < w8.heap.size := by omega
 refine ⟨fun nv sg i24 s7 i25 b4 i26 i27 s8 i28 l10 i29 l11 l12 i30 w' => ∃ (x : List UInt8) (acc : List (List UInt8)) (u' : Sx), sg = T x /\ MvX A w8 m i24 s7 i25 b4 [.int .i64 i26, .int .i64 i27, .string s8, .int .i64 i28, l10.v, .int .i64 i29] l11 i30 /\ Stay A w8 w' /\ Own rTx 1 9 w8.heap.size w' (Fr w8.heap.size) l12 acc /\ Zt F ts w w' b l u' [k1, k0] /\ targS ts nv x acc u' = targS ts (ts.length + 1) [45, 62] [] u /\ mu ts u' < nv /\ acc.length + mu ts u' <= ts.length, ts.length + 1, ⟨[45, 62], [], u, rfl, hx, Stay.refl _ _, Own.nil _ _ _ _ _ _, t8, rfl, Nat.lt_succ_of_le (mu_le _ _), by rw [List.length_nil, Nat.zero_add]; exact mu_le _ _⟩, ?_⟩
 clear hx
 rintro nv sg i24 s7 i25 b4 i26 i27 s8 i28 l10 i29 l11 l12 i30 w9 ⟨x, acc, u', rfl, hx, hS, hown, t9, hT, hf1, hm1⟩
 obtain ⟨m', rfl⟩ : ∃ m', nv = m' + 1 := ⟨nv - 1, by omega⟩
 rw [targS] at hT
 obtain ⟨q, w10, e1, hO10, hm2⟩ := stk_c t9.r [x] (n := 1) (parts := #[(0, .string (T x))]) rfl rfl (by decide) (by decide)
 have t10 := t9.q hO10
 refine ⟨q, w10, e1, t9.sq hO10 (by simp), hm2.mono ?_⟩
 rintro _ w11 ⟨rfl, h11⟩
 have t11 := t10.nx h11
 refine ⟨_, rfl, t10.sc h11 (by simp), fun hc w12 hO12 => ?_, fun hc => ?_⟩
 · have hc := pos1 hc
   rw [if_neg hc] at hT t11
   have t12 := t11.q hO12
   refine ⟨fun k => k = k1, rfl, (sname_c t12.r).mono ?_⟩
   rintro _ w13 ⟨rfl, h13⟩
   have t13 := t12.nx h13
   have hO9 : Only [b] w9 w13 := (((hO10.weaken (bs' := [b]) fun _ h => (by cases h)).trans h11.o fun x hx => .inl hx).tr0 hO12).trans h13.o fun x hx => .inl hx
   have zS := hS.sz
   have z9 := hO9.size
   have hsm := h.sm
   have hml := mu_le ts u'
   have hmu := next_mu h.en (which_ne hc).1 t9.r.lt (which_ne hc).2 (name_on h.en (s := nextS u')).toOn0
   obtain ⟨y, w14, e2, hO14, la', w15, e3, hown', ⟨gs, hO15, hgs⟩, _⟩ := app_one (P := Tryz.prog) (t := 57) (ty := 57) (e := 9) (i := Tryz.t9) (bytes := 16) (size := 1) (v := .string (T (nameS ts (nextS u')).1)) (x := (nameS ts (nextS u')).1) (G := fun _ => False) (by kernel_rfl) (by kernel_rfl) rfl rfl rfl rfl (by decide) (by decide) (by decide) rTx_ok (hown.stay rTx_ok hO9 fun x hx => .inl (by simp only [List.mem_singleton] at hx; omega)) (Nat.le_trans zS z9) rfl rfl (fun k hk _ => hk.elim) (by omega)
   have hgs' : ∀ g, g ∈ gs -> w8.heap.size <= g := fun g hg => (hgs g hg).2.1
   have z8w := t8.z.o.size
   have t14 := t13.q hO14
   have t15 := t14.row hO15 fun x hx => Nat.le_trans z8w (hgs' x hx)
   have nk := t8.ne (k0 := k1) (by simp)
   refine ⟨_, rfl, t12.sc h13 (by simp), fun k hk hlt => (by subst hk; exact h13.o.block k hlt (by simpa using nk)), y, w14, e2, t13.sq hO14 (by simp), Keeps.only hO14, la', w15, e3, t14.sr hO15 (by simp) (fun x hx y hy => ?_), fun k hk hlt => (by subst hk; exact hO15.block k hlt fun hm => (by have := hgs' k hm; omega)), fun w16 hO16 => ⟨m', by omega, [44], _, _, rfl, hx, ?_, ?_, t15.f hO16 (by simp), hT, by omega, ?_⟩⟩
   · have := hgs' x hx
     simp only [List.mem_cons, List.not_mem_nil, or_false] at hy
     omega
   · exact (((hS.go hO9 fun x hx => .inl (by simp only [List.mem_singleton] at hx; omega)).q hO14).go hO15 fun x hx => .inr (hgs' x hx)).f hO16 (.inl hA1)
   · refine ((hown'.mono rTx_ok fun k hk => ?_).stay rTx_ok hO16 fun x hx => .inl (by simp only [List.mem_singleton] at hx; omega))
     rcases hk with hk | hk
     · exact hk
     · exact Nat.le_trans (Nat.le_trans zS z9) hk
   · rw [List.length_append, List.length_singleton]; omega
 · have hc := pos0 hc
   rw [if_pos hc] at hT t11
   obtain ⟨q2, w17, e2, hO17, hm3⟩ := sms_c t11.r [59]
   have t17 := t11.q hO17
   refine ⟨q2, w17, e2, t11.sq hO17 (by simp), hm3.mono ?_⟩
   rintro _ w18 ⟨rfl, h18⟩
   have t18 := t17.nx h18
   refine ⟨rfl, t17.sc h18 (by simp), fun w19 hO19 => ?_⟩
   rw [<- hT] at hR
   rw [<- hR]
   have s9 : ∀ {B : Nat}, b < B -> k0 < B -> Stay B w9 w19 := fun hb hk => ((((Stay.refl _ _).q hO10).d h11 hb).q hO17).d h18 hb |>.f hO19 (.inl hk)
   have s19 : Stay A w8 w19 := (((((hS.q hO10).d h11 hAb).q hO17).d h18 hAb).f hO19 (.inl hA0))
   refine ⟨mvv m.k m.ev m.wt m.gd [.int .i64 i26, .int .i64 i27, .string s8, .int .i64 i28, l10.v, .int .i64 i29] l11 l12 m.a, by rw [hx.e1, hx.e2, hx.e3, hx.e4, hx.e5]; rfl, ⟨_, _, _, rfl, (rE_ok true).low ((rE_ok true).stay hx.g s19) hA, (hx.x.stay (rAc_ok true) (by decide) s19).low (rAc_ok true) hA, ?_⟩, (t18.f hO19 (by simp)).dn⟩
   exact ((hown.sl rTx_ok fun k hk => hk).stay rTx_ok (by decide) (s9 hb8 (by omega))).low rTx_ok (by omega)
end
theorem pre_get {pre xs : List Value} {j : Nat} {v : Value} (h : xs[j]? = some v) : (pre ++ xs)[pre.length + j]? = some v := by
 rw [List.getElem?_append_right (by omega), Nat.add_sub_cancel_left]; exact h
theorem pre_splice (pre xs vs : List Value) (j : Nat) : splice (pre ++ xs) (pre.length + j) vs = pre ++ splice xs j vs := by
 unfold splice
 rw [List.take_length_add_append, Nat.add_assoc, List.drop_length_add_append]
 simp only [List.append_assoc]
structure NbO (B : Nat) (w : World) (n : Nb) (en lv mv : Sl) : Prop where
 en : SlG true (rAc true) 9 173 w (fun k => B <= k /\ mv.a ≠ some ⟨k, 0, none⟩) en n.en
 lv : SlG true (rAc true) 9 173 w (fun k => B <= k /\ mv.a ≠ some ⟨k, 0, none⟩) lv n.lv
 mv : Own (rMv true) 13 59 B w (Fr B) mv n.mv
section
variable {B : Nat} {w w' : World} {n : Nb} {en lv mv : Sl}
theorem NbO.go (h : NbO B w n en lv mv) {bs : List Nat} (k : Only bs w w') (hb : ∀ x, x ∈ bs -> x < B) : NbO B w' n en lv mv :=
 ⟨h.en.keep (rAc_ok true) (by decide) fun i hi hlt => k.block i hlt fun hm => (by have := hb i hm; omega), h.lv.keep (rAc_ok true) (by decide) fun i hi hlt => k.block i hlt fun hm => (by have := hb i hm; omega), h.mv.stay (rMv_ok true) k fun x hx => .inl (hb x hx)⟩
theorem NbO.app (h : NbO B w n en lv mv) {gs : List Nat} {mv' : Sl} {m : Mv} (hown : Own (rMv true) 13 59 B w' (fun k => Fr B k ∨ w.heap.size <= k) mv' (n.mv ++ [m])) (k : Only gs w w') (hgs : ∀ g, g ∈ gs -> mv.a = some ⟨g, 0, none⟩) (ha : mv'.a = mv.a ∨ ∃ g, mv'.a = some ⟨g, 0, none⟩ /\ w.heap.size <= g) (hB : B <= w.heap.size) : NbO B w' { n with mv := n.mv ++ [m] } en lv mv' := by
 have go : ∀ {la : Sl} {xs : List Ac}, SlG true (rAc true) 9 173 w (fun k => B <= k /\ mv.a ≠ some ⟨k, 0, none⟩) la xs -> SlG true (rAc true) 9 173 w' (fun k => B <= k /\ mv'.a ≠ some ⟨k, 0, none⟩) la xs := fun hx =>
  ((hx.inHeap (rAc_ok true) (by decide)).keep (rAc_ok true) (by decide) fun i hi hlt => k.block i hlt fun hm => hi.1.2 (hgs i hm)).mono (rAc_ok true) fun i hi => ⟨hi.1.1, by
   rcases ha with ha | ⟨g, ha, hg⟩
   · rw [ha]; exact hi.1.2
   · rw [ha]
     intro e
     injection e with e
     injection e with e
     have := hi.2
     omega⟩
 exact ⟨go h.en, go h.lv, hown.mono (rMv_ok true) fun i hi => hi.elim id fun hi => Nat.le_trans hB hi⟩
theorem NbO.setEn (h : NbO B w n en lv mv) {A : Nat} {la : Sl} {xs : List Ac} (hx : SlG true (rAc true) 9 173 w (Fr A) la xs) (hA : B <= A) (hm : ∀ k, A <= k -> mv.a ≠ some ⟨k, 0, none⟩) : NbO B w { n with en := xs } la lv mv :=
 ⟨hx.mono (rAc_ok true) fun k hk => ⟨Nat.le_trans hA hk, hm k hk⟩, h.lv, h.mv⟩
theorem NbO.setLv (h : NbO B w n en lv mv) {A : Nat} {la : Sl} {xs : List Ac} (hx : SlG true (rAc true) 9 173 w (Fr A) la xs) (hA : B <= A) (hm : ∀ k, A <= k -> mv.a ≠ some ⟨k, 0, none⟩) : NbO B w { n with lv := xs } en la mv :=
 ⟨h.en, hx.mono (rAc_ok true) fun k hk => ⟨Nat.le_trans hA hk, hm k hk⟩, h.mv⟩
end
abbrev hadv (h : Had) : List Value := [.bool false, .bool h.i, .bool h.e, .bool h.l]
structure Cl (F : Nat -> Prop) (ts : List Tk) (w w' : World) (b : Nat) (l : Sl) (g t : Nat) (pre : List Value) (kh B : Nat) (s : Sx) (n : Nb) (h : Had) (en lv mv : Sl) : Prop where
 r : Sr F ts w' b l s
 nb : Blk w' g t (pre ++ ndv n.k n.nm n.ini n.dft en lv mv Sl.nil n.a)
 hb : Blk w' kh 137 (hadv h)
 no : NbO B w' n en lv mv
 o : ∃ gs, Only (b :: g :: kh :: gs) w w' /\ ∀ x, x ∈ gs -> B <= x
 ng : g ≠ b /\ ¬ F g
 nh : b < kh
 gh : g ≠ kh
 gB : g < B
 hB : kh < B
 lB : B <= w'.heap.size
section
variable {F : Nat -> Prop} {ts : List Tk} {w w' w2 : World} {b : Nat} {l : Sl} {g t : Nat} {pre : List Value} {kh B : Nat} {s s' : Sx} {n n' : Nb} {h h' : Had} {en lv mv en' lv' mv' : Sl}
theorem Cl.nx (c : Cl F ts w w' b l g t pre kh B s n h en lv mv) (k : Dn F ts w' w2 b l s') : Cl F ts w w2 b l g t pre kh B s' n h en lv mv := by
 have ng := c.ng
 have nh := c.nh
 have gB := c.gB
 have hBl := c.hB
 obtain ⟨gs, h1, h2⟩ := c.o
 exact ⟨k.r, k.o.blk c.nb (by simp only [List.mem_singleton]; omega), k.o.blk c.hb (by simp only [List.mem_singleton]; omega), c.no.go k.o fun x hx => (by simp only [List.mem_singleton] at hx; omega),
  ⟨gs, h1.trans k.o fun x hx => .inl (by simp only [List.mem_singleton] at hx; simp [hx]), h2⟩, ng, nh, c.gh, gB, c.hB, Nat.le_trans c.lB k.o.size⟩
theorem Cl.q (c : Cl F ts w w' b l g t pre kh B s n h en lv mv) (k : Only [] w' w2) : Cl F ts w w2 b l g t pre kh B s n h en lv mv := c.nx (c.r.dn.q k)
theorem Cl.st (c : Cl F ts w w' b l g t pre kh B s n h en lv mv) (k : Only [g] w' w2) (hB : Blk w2 g t (pre ++ ndv n'.k n'.nm n'.ini n'.dft en' lv' mv' Sl.nil n'.a)) (no : NbO B w' n' en' lv' mv') : Cl F ts w w2 b l g t pre kh B s n' h en' lv' mv' := by
 obtain ⟨gs, h1, h2⟩ := c.o
 have gB := c.gB
 exact ⟨c.r.far1 k c.ng, hB, k.blk c.hb (by simpa using fun e => c.gh e.symm), no.go k fun x hx => (by simp only [List.mem_singleton] at hx; omega), ⟨gs, h1.trans k fun x hx => .inl (by simp only [List.mem_singleton] at hx; simp [hx]), h2⟩, c.ng, c.nh, c.gh, gB, c.hB, Nat.le_trans c.lB k.size⟩
theorem Cl.hd (c : Cl F ts w w' b l g t pre kh B s n h en lv mv) (k : Only [kh] w' w2) (hB : Blk w2 kh 137 (hadv h')) : Cl F ts w w2 b l g t pre kh B s n h' en lv mv := by
 obtain ⟨gs, h1, h2⟩ := c.o
 have hB' := c.hB
 exact ⟨c.r.one k c.nh, k.blk c.nb (by simpa using c.gh), hB, c.no.go k fun x hx => (by simp only [List.mem_singleton] at hx; omega), ⟨gs, h1.trans k fun x hx => .inl (by simp only [List.mem_singleton] at hx; simp [hx]), h2⟩, c.ng, c.nh, c.gh, c.gB, hB', Nat.le_trans c.lB k.size⟩
def hadJ (h : Had) (j : Nat) : Bool := if j = 1 then h.i else if j = 2 then h.e else h.l
def setJ (h : Had) (j : Nat) : Had := if j = 1 then { h with i := true } else if j = 2 then { h with e := true } else { h with l := true }
theorem j3 {j : Nat} (h0 : j ≠ 0) (h3 : j <= 3) : j = 1 ∨ j = 2 ∨ j = 3 := by omega
theorem sclause_c (c : Cl F ts w w' b l g t pre kh B s n h en lv mv) (hm : n.mv.length < ts.length) : Calls Tryz.prog 79 #[rp b, .pointer (some ⟨g, pre.length, none⟩), .pointer (some ⟨kh, 0, none⟩)] w' fun e w2 => e = .returned (.bool (clauseS ts n h s).1) /\
    ∃ en' lv' mv', Cl F ts w w2 b l g t pre kh B (clauseS ts n h s).2.2.2 (clauseS ts n h s).2.1 (clauseS ts n h s).2.2.1 en' lv' mv' := by
  refine ret (v107w ⟨b, 0, none⟩ _ _ (fun v w2 => v = (.bool (clauseS ts n h s).1) /\ ∃ en' lv' mv', Cl F ts w w2 b l g t pre kh B (clauseS ts n h s).2.2.2 (clauseS ts n h s).2.1 (clauseS ts n h s).2.2.1 en' lv' mv') w' ?_)
  unfold v107v
  have hsm := c.r.sm
  obtain ⟨q, w0, e1, hO0, hm0⟩ := swh_c c.r [wOn, wAlways, wAfter] (n := 3) (parts := #[(0, .string (T wOn)), (1, .string (T wAlways)), (2, .string (T wAfter))]) rfl rfl (by decide) (by decide)
  refine ⟨q, w0, e1, hm0.mono ?_⟩
  rintro _ w1 ⟨rfl, hO1⟩
  have c1 := (c.q hO0).q hO1
  refine ⟨_, rfl, fun hc w2 hO2 => ?_, fun hc => ?_⟩
  · have hc := pos1 hc
    have c2 := c1.q hO2
    have hcl : clauseS ts n h s = (true, { n with mv := n.mv ++ [(moveS ts (whichS ts s [wOn, wAlways, wAfter] : Nat) s).1] }, h, (moveS ts (whichS ts s [wOn, wAlways, wAfter] : Nat) s).2) := by
      unfold clauseS; rw [if_pos hc]
    rw [hcl]
    refine ⟨fun k => k = g, _, rfl, rfl, mv, c2.nb.at0 (pre.length + 6) (pre_get rfl), (smove_c c2.r _ (which_ne hc).2).mono ?_⟩
    rintro _ w3 ⟨cs, rfl, hx, h3⟩
    have c3 := c2.nx h3
    generalize (moveS ts (whichS ts s [wOn, wAlways, wAfter] : Nat) s).1 = m at *
    generalize (moveS ts (whichS ts s [wOn, wAlways, wAfter] : Nat) s).2 = u at *
    have hx' := hx
    obtain ⟨gc, asl, tg, rfl, hg, _, _⟩ := hx'
    obtain ⟨sl, rfl⟩ := rE_cells hg
    have ng := c.ng
    have gB := c.gB
    obtain ⟨y, w4, e2, hO4, mv', w5, e3, hown, ⟨gs, hO5, hgs⟩, ha⟩ := app_one (P := Tryz.prog) (t := 24) (ty := 24) (e := 59) (i := Tryz.t59) (bytes := 168) (size := 13) (v := .agg (mvv m.k m.ev m.wt m.gd (exv m.g.k m.g.n m.g.s m.g.op sl m.g.a) asl tg m.a).toArray) (x := m) (G := Fr w2.heap.size) (by kernel_rfl) (by kernel_rfl) rfl rfl rfl rfl (by decide) (by decide) (by decide) (rMv_ok true) c3.no.mv c3.lB rfl hx (fun k hk _ => ⟨Nat.le_trans c2.lB hk, c2.no.mv.new hk⟩) (by omega)
    have hO5' : Only gs w3 w5 := (hO4.weaken (bs' := gs) fun _ h => (by cases h)).trans hO5 fun x hx => .inl hx
    have hgs' : ∀ x, x ∈ gs -> B <= x := fun x hx => (hgs x hx).2.1
    have hn : g ∉ gs := fun hm => by have := hgs' g hm; omega
    have hB5 := hO5'.blk c3.nb hn
    refine ⟨_, _, _, _, _, _, _, _, sl, _, asl, tg, _, rfl, fun k hk hlt => (by subst hk; exact h3.o.block k hlt (by simp only [List.mem_singleton]; omega)), y, w4, e2, Keeps.only hO4, mv', w5, e3, fun k hk hlt => (by subst hk; exact hO5.block k hlt hn), _, rfl, g, _, _, _, rfl, hB5, by simp, fun w6 hO6 hB6 => ⟨rfl, en, lv, mv', ?_⟩⟩
    rw [pre_splice] at hB6
    have no5 := c3.no.app hown hO5' (fun x hx => (hgs x hx).1) ha c3.lB
    obtain ⟨gs0, o1, o2⟩ := c3.o
    have nh := c.nh
    have hBB := c.hB
    have lB := c3.lB
    have hgh := c.gh
    have z5 := hO5'.size
    have z6 := hO6.size
    exact ⟨(c3.r.own hO5' fun x hx => (by have := hgs' x hx; omega)).far1 hO6 ng, hB6, (hO6.block kh (by have := c3.hb.lt; omega) (by simp only [List.mem_singleton]; omega)).trans (hO5'.blk c3.hb fun hm => (by have := hgs' kh hm; omega)),
      no5.go hO6 fun x hx => (by simp only [List.mem_singleton] at hx; omega), ⟨gs ++ gs0, ((o1.weaken (bs' := b :: g :: kh :: (gs ++ gs0)) fun x hx => .inl (by simp only [List.mem_cons, List.mem_append] at hx ⊢; rcases hx with hx | hx | hx | hx <;> simp [hx])).trans hO5' fun x hx => .inl (by simp [hx])).trans hO6 fun x hx => .inl (by simp only [List.mem_singleton] at hx; simp [hx]), fun x hx => (List.mem_append.1 hx).elim (hgs' x) (o2 x)⟩, ng, nh, hgh, gB, hBB, by omega⟩
  · have hc := pos0 hc
    obtain ⟨q, w7, e1, hO7, hm0⟩ := swh_c c1.r [wInitial, wEnter, wLeave] (n := 3) (parts := #[(0, .string (T wInitial)), (1, .string (T wEnter)), (2, .string (T wLeave))]) rfl rfl (by decide) (by decide)
    refine ⟨q, w7, e1, hm0.mono ?_⟩
    rintro _ w8 ⟨rfl, hO8⟩
    have c8 := (c1.q hO7).q hO8
    have hle : whichS ts s [wInitial, wEnter, wLeave] <= 3 := which_le _
    refine ⟨_, rfl, fun hj => ?_, fun hj => ?_⟩
    · have hj := nat0 hj
      have hcl : clauseS ts n h s = (false, n, h, s) := by unfold clauseS; rw [if_neg (by simpa using hc), hj]; rfl
      rw [hcl]
      exact ⟨rfl, _, _, _, c8⟩
    have hj := nat1 hj
    have hnx := which_next c.r hj
    have hcl : clauseS ts n h s = (if hadJ h (whichS ts s [wInitial, wEnter, wLeave]) then (false, n, h, wrongS ts s) else if whichS ts s [wInitial, wEnter, wLeave] = 1 then (true, { n with ini := (nameS ts (nextS s)).1 }, setJ h 1, mustS ts (nameS ts (nextS s)).2 [59]) else if whichS ts s [wInitial, wEnter, wLeave] = 2 then (true, { n with en := (blockS ts (nextS s)).1 }, setJ h 2, (blockS ts (nextS s)).2) else (true, { n with lv := (blockS ts (nextS s)).1 }, setJ h 3, (blockS ts (nextS s)).2)) := by
      unfold clauseS
      rw [if_neg (by simpa using hc)]
      rcases j3 hj hle with e | e | e <;> rw [e] <;> rfl
    rw [hcl]
    generalize whichS ts s [wInitial, wEnter, wLeave] = j at *
    have hcell : (hadv h)[j]? = some (.bool (hadJ h j)) := by rcases j3 hj hle with e | e | e <;> rw [e] <;> rfl
    have hp : PtrAt ⟨kh, 0, none⟩ (j : Int) 4 1 ⟨kh, j, none⟩ := ⟨by omega, by omega, by rw [addr_lit, Int.toNat_natCast]; simp⟩
    refine ⟨_, rfl, ⟨kh, j, none⟩, hp, _, c8.hb.at0 j hcell, fun hh => ?_, fun hh => ?_⟩
    · rw [if_pos hh]
      refine (swrong_c c8.r).mono ?_
      rintro _ w9 ⟨rfl, h9⟩
      exact ⟨rfl, rfl, _, _, _, c8.nx h9⟩
    · rw [if_neg (by rw [hh]; decide)]
      refine ⟨_, rfl, ⟨kh, j, none⟩, hp, kh, j, _, _, rfl, c8.hb, by show j + 1 <= 4; omega, fun w10 hO10 hB10 => ?_⟩
      have c10 : Cl F ts w w10 b l g t pre kh B s n (setJ h j) en lv mv := c8.hd hO10 (by
        have e : splice (hadv h) j [.bool true] = hadv (setJ h j) := by rcases j3 hj hle with e | e | e <;> rw [e] <;> rfl
        rwa [e] at hB10)
      refine ⟨_, Blk.at1 c10.r.blk 1 rfl, b, 1, _, _, rfl, c10.r.blk, by simp, fun w11 hO11 hB11 => ?_⟩
      rw [c.r.wr] at hB11
      have c11 := c10.nx (s' := nextS s) ⟨hO11, c10.r.turn hO11 hB11 hnx⟩
      refine ⟨fun w' => ∃ en' lv' mv', Cl F ts w w' b l g t pre kh B _ _ _ en' lv' mv', fun w12 h12 => ⟨by split <;> (try split) <;> rfl, h12⟩, fun hj1 => ?_, fun hj1 => ⟨fun hj2 => ?_, fun hj2 => ?_⟩⟩
      · have e1 : j = 1 := by have : (j : Int) = 1 := by simpa using hj1
                              omega
        subst e1
        rw [if_pos rfl]
        refine (sname_c c11.r).mono ?_
        rintro _ w13 ⟨rfl, h13⟩
        have c13 := c11.nx h13
        refine ⟨_, rfl, _, rfl, g, _, _, _, rfl, c13.nb, by simp, fun w14 hO14 hB14 => ?_⟩
        rw [pre_splice] at hB14
        have c14 := c13.st (n' := { n with ini := (nameS ts (nextS s)).1 }) hO14 hB14 ⟨c13.no.en, c13.no.lv, c13.no.mv⟩
        obtain ⟨q, w15, e1, hO15, hm0⟩ := sms_c c14.r [59]
        refine ⟨q, w15, e1, hm0.mono ?_⟩
        rintro _ w16 ⟨rfl, h16⟩
        exact ⟨rfl, _, _, _, (c14.q hO15).nx h16⟩
      · have e1 : j = 2 := by have : (j : Int) = 2 := by simpa using hj2
                              omega
        subst e1
        rw [if_neg (by decide), if_pos rfl]
        refine (sblock_c c11.r).mono ?_
        rintro _ w17 ⟨la, rfl, hla, h17⟩
        have c17 := c11.nx h17
        refine ⟨la, rfl, _, rfl, g, _, _, _, rfl, c17.nb, by simp, fun w18 hO18 hB18 => ?_⟩
        rw [pre_splice] at hB18
        exact ⟨_, _, _, c17.st (n' := { n with en := (blockS ts (nextS s)).1 }) hO18 hB18 (c17.no.setEn hla c11.lB fun k hk => c11.no.mv.new hk)⟩
      · have e0 : j ≠ 1 := fun e => by rw [e] at hj1; simp at hj1
        have e1 : j = 3 := by have : ¬ (j : Int) = 2 := by simpa using hj2
                              omega
        subst e1
        rw [if_neg (by decide), if_neg (by decide)]
        refine (sblock_c c11.r).mono ?_
        rintro _ w19 ⟨la, rfl, hla, h19⟩
        have c19 := c11.nx h19
        refine ⟨la, rfl, _, rfl, g, _, _, _, rfl, c19.nb, by simp, fun w20 hO20 hB20 => ?_⟩
        rw [pre_splice] at hB20
        exact ⟨_, _, _, c19.st (n' := { n with lv := (blockS ts (nextS s)).1 }) hO20 hB20 (c19.no.setLv hla c11.lB fun k hk => c11.no.mv.new hk)⟩
end
section
variable {F : Nat -> Prop} {ts : List Tk} {w w' w2 : World} {b : Nat} {l : Sl} {s s' : Sx}
theorem snamed_c (h : Sr F ts w b l s) (k : Int) : Calls Tryz.prog 39 #[rp b, .int .i64 k] w fun e w' => e = .returned (.agg (ndv (namedS ts k s).1.k (namedS ts k s).1.nm [] [] Sl.nil Sl.nil Sl.nil Sl.nil (namedS ts k s).1.a).toArray) /\ Dn F ts w w' b l (namedS ts k s).2 := by
 refine ret (v109w ⟨b, 0, none⟩ k (fun v w' => v = (.agg (ndv (namedS ts k s).1.k (namedS ts k s).1.nm [] [] Sl.nil Sl.nil Sl.nil Sl.nil (namedS ts k s).1.a).toArray) /\ Dn F ts w w' b l (namedS ts k s).2) w ?_)
 unfold v109v
 intro k0 k1 w0 hk0 hk0' hk1 hk1' hO0
 have t0 := ((h.zt.q hO0).ad hk0 hk0').ad hk1 hk1'
 obtain ⟨ad, g1, g2⟩ := t0.r.now
 refine ⟨fun w' => Zt F ts w w' b l (roomS ts s) [k1, k0], fun w1 t1 => (skind_c t1.r (k := 1) (by decide)).mono ?_, l, Blk.at1 t0.r.blk 0 rfl, _, Blk.at1 t0.r.blk 1 rfl, ad, g1, _, g2.at1 0 _ rfl, fun hc w5 hO5 => ?_, fun hc w8 hO8 => ?_⟩
 · rintro _ w2 ⟨rfl, h2⟩
   have t2 := t1.nx h2
   refine ⟨_, _, _, _, rfl, t1.sc h2 (by simp), fun k2 w3 hk2 hk2' hO3 n1 n2 n3 => ⟨fun k => k = k2, rfl, fun e => n3 e, fun e => n3 e, fun w4 hO4 => ⟨rfl, ?_⟩⟩⟩
   have t3 := t2.q hO3
   have z3 := t3.z.go hO4 fun x hx => .inr (by simp only [List.mem_cons, List.not_mem_nil, or_false] at hx ⊢; omega)
   exact ⟨z3.o, t3.r.own hO4 fun x hx => t3.lt (by simp only [List.mem_cons, List.not_mem_nil, or_false] at hx ⊢; omega)⟩
 · have hc : (tk ts s.i).k = 1 := by simpa using hc
   have t5 := t0.q hO5
   unfold roomS
   rw [if_pos hc]
   refine (useN_c t5.r).mono ?_
   rintro _ w6 ⟨rfl, h6⟩
   have t6 := t5.nx h6
   refine ⟨rfl, t5.sc h6 (by simp), _, Blk.at1 t6.r.blk 6 rfl, fun hd => ?_, fun hd => ?_⟩
   · rw [if_pos (by simpa using hd)]
     refine (sstop_c t6.r 21).mono ?_
     rintro _ w7 ⟨rfl, h7⟩
     exact ⟨rfl, t6.sc h7 (by simp), t6.nx h7⟩
   · rw [if_neg (by simpa using hd)]
     exact t6
 · have hc : ¬ (tk ts s.i).k = 1 := by simpa using hc
   unfold roomS
   rw [if_neg hc]
   exact t0.q hO8
def NodeC (F : Nat -> Prop) (ts : List Tk) (b : Nat) (l : Sl) (f : Nat) (d : Int) : Prop := ∀ (k : Int) (u : Sx) (w : World), Sr F ts w b l u -> u.d = d -> Calls Tryz.prog 80 #[rp b, .int .i64 k] w fun e w' => ∃ cs, e = .returned (.agg cs.toArray) /\ rNd true f w' (Fr w.heap.size) (nodeS ts f k u).1 cs /\ Dn F ts w w' b l (nodeS ts f k u).2
theorem nd0_r {f : Nat} (hf : 0 < f) (w : World) (G : Nat -> Prop) : rNd true f w G nd0 (ndv 0 [] [] [] Sl.nil Sl.nil Sl.nil Sl.nil 0) := by
 obtain ⟨m, rfl⟩ : ∃ m, f = m + 1 := ⟨f - 1, by omega⟩
 exact ⟨_, _, _, _, rfl, ⟨SlG.nil _ _ _ _ _ _, SlG.nil _ _ _ _ _ _, SlG.nil _ _ _ _ _ _⟩, SlG.nil _ _ _ _ _ _⟩
abbrev NdO (f B : Nat) (w : World) (s : Sl) (xs : List Nd) : Prop := Own (rNd true f) 9 27 B w (Fr B) s xs
theorem kid_store {f B g t : Nat} {pre : List Value} {n1 : Nb} {en lv mv l2 l8 : Sl} {acc : List Nd} {x : Nd} {k : Int} {nm ini dft : List UInt8} {a b1 b2 b3 : Sl} {at_ : Int} {k0 : Nat} {Q : World -> Prop} {H : Nat -> Prop}
  (hx : rNd true f w H x (ndv k nm ini dft a b1 b2 b3 at_)) (hH : ∀ i, H i -> i < w.heap.size -> Fr B i /\ l8.a ≠ some ⟨i, 0, none⟩) (hH' : ∀ i, H i -> B <= i) (hown : NdO f B w l8 (acc ++ [nd0])) (hn : l2.n = acc.length)
  (hnb : Blk w g t (pre ++ ndv n1.k n1.nm n1.ini n1.dft en lv mv l2 n1.a)) (hg : g < B) (hk0 : k0 < B) (hgk : k0 ≠ g)
  (hQ : ∀ w', Blk w' g t (pre ++ ndv n1.k n1.nm n1.ini n1.dft en lv mv l8 n1.a) -> NdO f B w' l8 (acc ++ [x]) -> (∃ gk, B <= gk /\ Only [g, gk] w w') -> Q w') :
  ∃ p1 : Addr, SlAt l8 (l2.n : Int) 9 p1 /\ ∃ p2 : Addr, (some (⟨g, pre.length, none⟩ : Addr)) = (some p2) /\
   (∃ k13 k14 : Nat, ∃ z2 : List Value, ∃ k15 : Nat, p1 = ⟨k13, k14, none⟩ /\ Blk w k13 k15 z2 /\ (k14 + 9) <= z2.length /\ k0 ≠ k13 /\
    ∀ w15 : World, Only [k13] w w15 -> Blk w15 k13 k15 (splice z2 k14 [.int .i64 k, .string (T nm), .string (T ini), .string (T dft), a.v, b1.v, b2.v, b3.v, .int .i64 at_]) -> ∃ k16 k17 : Nat, ∃ z3 : List Value, ∃ k18 : Nat, (p2.add 7) = ⟨k16, k17, none⟩ /\
    Blk w15 k16 k18 z3 /\ (k17 + 1) <= z3.length /\ k0 ≠ k16 /\ ∀ w16 : World, Only [k16] w15 w16 -> Blk w16 k16 k18 (splice z3 k17 [l8.v]) -> Q w16) /\
   ∃ k19 k20 : Nat, ∃ z4 : List Value, ∃ k21 : Nat, (p2.add 7) = ⟨k19, k20, none⟩ /\ Blk w k19 k21 z4 /\ (k20 + 1) <= z4.length /\ k0 ≠ k19 /\
    ∀ w17 : World, Only [k19] w w17 -> Blk w17 k19 k21 (splice z4 k20 [l8.v]) -> ∃ k22 k23 : Nat, ∃ z5 : List Value, ∃ k24 : Nat, p1 = ⟨k22, k23, none⟩ /\
    Blk w17 k22 k24 z5 /\ (k23 + 9) <= z5.length /\ k0 ≠ k22 /\ ∀ w18 : World, Only [k22] w17 w18 -> Blk w18 k22 k24 (splice z5 k23 [.int .i64 k, .string (T nm), .string (T ini), .string (T dft), a.v, b1.v, b2.v, b3.v, .int .i64 at_]) -> Q w18 := by
 have hlt : l2.n < (acc ++ [nd0]).length := by rw [List.length_append, List.length_singleton]; omega
 have hset : (acc ++ [nd0]).set l2.n x = acc ++ [x] := by rw [hn, List.set_append_right _ _ (Nat.le_refl _), Nat.sub_self]; rfl
 obtain ⟨gk, cells, a1, a2, a3, a4, a5⟩ := Own.store (rNd_ok true f) hown hlt (vs := ndv k nm ini dft a b1 b2 b3 at_) rfl hx hH (by decide)
 have hgB := (hown.blk a1).1
 dsimp only at hgB
 refine ⟨_, a2, _, rfl, ⟨gk, l2.n * 9, cells, _, rfl, a3, a4, by omega, fun w15 hO15 hB15 => ⟨g, pre.length + 7, _, t, rfl, hO15.blk hnb (by simp only [List.mem_singleton]; omega), by simp, hgk, fun w16 hO16 hB16 => ?_⟩⟩, g, pre.length + 7, _, t, rfl, hnb, by simp, hgk, fun w17 hO17 hB17 => ?_⟩
 · rw [pre_splice] at hB16
   have o15 := a5 w15 hO15 hB15
   rw [hset] at o15
   exact hQ w16 hB16 (o15.stay (rNd_ok true f) hO16 fun x hx => .inl (by simp only [List.mem_singleton] at hx; omega)) ⟨gk, hgB, (hO15.weaken (bs' := [g, gk]) fun x hx => .inl (by simp only [List.mem_singleton] at hx; simp [hx])).trans hO16 fun x hx => .inl (by simp only [List.mem_singleton] at hx; simp [hx])⟩
 · rw [pre_splice] at hB17
   have z17 := hO17.size
   have hstay : NdO f B w17 l8 (acc ++ [nd0]) := hown.stay (rNd_ok true f) hO17 fun x hx => .inl (by simp only [List.mem_singleton] at hx; omega)
   have hx17 : rNd true f w17 (fun i => H i /\ i < w.heap.size) x (ndv k nm ini dft a b1 b2 b3 at_) := (rNd_ok true f).keep ((rNd_ok true f).inHeap hx) fun i hi hlt => hO17.block i hlt (by have := hH' i hi.1; simp only [List.mem_singleton]; omega)
   obtain ⟨gk', cells', c1, c2, c3, c4, c5⟩ := Own.store (rNd_ok true f) hstay hlt (vs := ndv k nm ini dft a b1 b2 b3 at_) rfl hx17 (fun i hi _ => hH i hi.1 hi.2) (by decide)
   have e : gk' = gk := by
    rw [a1] at c1
    injection c1 with c1
    injection c1 with c1
    exact c1.symm
   subst e
   refine ⟨gk', l2.n * 9, cells', _, rfl, c3, c4, by omega, fun w18 hO18 hB18 => ?_⟩
   have o18 := c5 w18 hO18 hB18
   rw [hset] at o18
   exact hQ w18 (hO18.blk hB17 (by simp only [List.mem_singleton]; omega)) o18 ⟨gk', hgB, (hO17.weaken (bs' := [g, gk']) fun x hx => .inl (by simp only [List.mem_singleton] at hx; simp [hx])).trans hO18 fun x hx => .inl (by simp only [List.mem_singleton] at hx; simp [hx])⟩
structure Kd (F : Nat -> Prop) (ts : List Tk) (w w' : World) (b : Nat) (l : Sl) (g t : Nat) (pre : List Value) (f B B2 : Nat) (n : Nb) (en lv mv : Sl) (s : Sx) (acc : List Nd) (kids : Sl) : Prop where
 r : Sr F ts w' b l s
 nb : Blk w' g t (pre ++ ndv n.k n.nm n.ini n.dft en lv mv kids n.a)
 no : NbR true w' (fun k => B <= k /\ k < B2) n en lv mv
 kd : NdO f B2 w' kids acc
 o : Only [b, g] w w'
 lB : B2 <= w'.heap.size
section
variable {g t : Nat} {pre : List Value} {f B B2 : Nat} {n : Nb} {en lv mv kids : Sl} {acc : List Nd}
theorem Kd.nx (h : Kd F ts w w' b l g t pre f B B2 n en lv mv s acc kids) (hbg : g ≠ b) (hb : b < B) (hB : B <= B2) (k : Dn F ts w' w2 b l s') : Kd F ts w w2 b l g t pre f B B2 n en lv mv s' acc kids :=
 ⟨k.r, k.o.blk h.nb (by simp only [List.mem_singleton]; omega), h.no.keep fun i hi hlt => k.o.block i hlt (by simp only [List.mem_singleton]; omega), h.kd.stay (rNd_ok true f) k.o fun x hx => .inl (by simp only [List.mem_singleton] at hx; omega),
  h.o.trans k.o fun x hx => .inl (by simp only [List.mem_singleton] at hx; simp [hx]), Nat.le_trans h.lB k.o.size⟩
end
end
section
variable {F : Nat -> Prop} {ts : List Tk} {w w' w2 : World} {b : Nat} {l : Sl} {s s' : Sx}
structure Cl0 (F : Nat -> Prop) (ts : List Tk) (w w' : World) (b : Nat) (l : Sl) (g t : Nat) (pre : List Value) (kh B : Nat) (s : Sx) (n : Nb) (en lv mv : Sl) : Prop where
 r : Sr F ts w' b l s
 nb : Blk w' g t (pre ++ ndv n.k n.nm n.ini n.dft en lv mv Sl.nil n.a)
 no : NbO B w' n en lv mv
 o : ∃ gs, Only (b :: g :: kh :: gs) w w' /\ ∀ x, x ∈ gs -> B <= x
 ng : g ≠ b /\ ¬ F g
 nh : b < kh
 gh : g ≠ kh
 gB : g < B
 hB : kh < B
 lB : B <= w'.heap.size
section
variable {g t : Nat} {pre : List Value} {kh B : Nat} {n : Nb} {h : Had} {en lv mv : Sl}
theorem Cl.c0 (c : Cl F ts w w' b l g t pre kh B s n h en lv mv) : Cl0 F ts w w' b l g t pre kh B s n en lv mv := ⟨c.r, c.nb, c.no, c.o, c.ng, c.nh, c.gh, c.gB, c.hB, c.lB⟩
theorem Cl0.cl (c : Cl0 F ts w w' b l g t pre kh B s n en lv mv) (hb : Blk w' kh 137 (hadv h)) : Cl F ts w w' b l g t pre kh B s n h en lv mv := ⟨c.r, c.nb, hb, c.no, c.o, c.ng, c.nh, c.gh, c.gB, c.hB, c.lB⟩
theorem Cl0.nx (c : Cl0 F ts w w' b l g t pre kh B s n en lv mv) (k : Dn F ts w' w2 b l s') : Cl0 F ts w w2 b l g t pre kh B s' n en lv mv := by
 have ng := c.ng
 have gB := c.gB
 have nh := c.nh
 have hBl := c.hB
 obtain ⟨gs, h1, h2⟩ := c.o
 exact ⟨k.r, k.o.blk c.nb (by simp only [List.mem_singleton]; omega), c.no.go k.o fun x hx => (by simp only [List.mem_singleton] at hx; omega),
  ⟨gs, h1.trans k.o fun x hx => .inl (by simp only [List.mem_singleton] at hx; simp [hx]), h2⟩, ng, c.nh, c.gh, gB, c.hB, Nat.le_trans c.lB k.o.size⟩
theorem Cl0.q (c : Cl0 F ts w w' b l g t pre kh B s n en lv mv) (k : Only [] w' w2) : Cl0 F ts w w2 b l g t pre kh B s n en lv mv := c.nx (c.r.dn.q k)
theorem Cl0.sc (c : Cl0 F ts w w' b l g t pre kh B s n en lv mv) (k : Dn F ts w' w2 b l s') : Same [kh] w' w2 := k.o.same fun x hx => by
 have := c.nh
 have := c.hB
 have := c.lB
 simp only [List.mem_singleton] at hx ⊢
 omega
theorem Cl0.sq (c : Cl0 F ts w w' b l g t pre kh B s n en lv mv) (k : Only [] w' w2) : Same [kh] w' w2 := c.sc (c.r.dn.q k)
end
theorem clause_len (n : Nb) (h : Had) (s : Sx) : (clauseS ts n h s).2.1.mv.length <= n.mv.length + 1 := by
 unfold clauseS
 split
 · dsimp only; rw [List.length_append, List.length_singleton]; omega
 · split
   · exact Nat.le_succ _
   · split <;> exact Nat.le_succ _
   · split <;> exact Nat.le_succ _
   · split <;> exact Nat.le_succ _
theorem sbody_c {f : Nat} (h : Sr F ts w b l s) {g t : Nat} {pre : List Value} {n : Nb} (hen : n.en = []) (hlv : n.lv = []) (hmv : n.mv = []) (hB : Blk w g t (pre ++ ndv n.k n.nm n.ini n.dft Sl.nil Sl.nil Sl.nil Sl.nil n.a)) (hg : g ≠ b /\ ¬ F g) (hd : InI s.d) (hN : s.fc = 0 -> 0 < f /\ NodeC F ts b l f (dec s.d)) :
  Calls Tryz.prog 42 #[rp b, .pointer (some ⟨g, pre.length, none⟩)] w fun e w' => e = .returned (.tuple #[]) /\ ∃ cs, Blk w' g t (pre ++ cs) /\ rNd true (f + 1) w' (Fr w.heap.size) (bodyS ts (nodeS ts f) n s).1 cs /\ Only [b, g] w w' /\ Sr F ts w' b l (bodyS ts (nodeS ts f) n s).2 := by
 refine ret (v106w ⟨b, 0, none⟩ _ (fun v w' => v = (.tuple #[]) /\ ∃ cs, Blk w' g t (pre ++ cs) /\ rNd true (f + 1) w' (Fr w.heap.size) (bodyS ts (nodeS ts f) n s).1 cs /\ Only [b, g] w w' /\ Sr F ts w' b l (bodyS ts (nodeS ts f) n s).2) w ?_)
 unfold v106v
 intro k0 w0 hk0 hk0' hO0
 have t0 := h.zt.al hO0 hk0 hk0'
 have hgw := hB.lt
 have hbw := h.lb
 refine ⟨_, Blk.at1 t0.r.blk 6 rfl, b, 6, _, _, rfl, t0.r.blk, by simp, t0.ne (by simp), fun w1 hO1 hB1 => ?_⟩
 have t1 : Zt F ts w w1 b l { s with d := dec s.d } [k0] := t0.up hO1 hB1 h.lt
 have nb1 : Blk w1 g t (pre ++ ndv n.k n.nm n.ini n.dft Sl.nil Sl.nil Sl.nil Sl.nil n.a) := hO1.blk (hO0.blk hB (by simp)) (by simp only [List.mem_singleton]; omega)
 have zw1 := t1.z.o.size
 have zk := (t1.z.k k0 (by simp)).2
 generalize hBB : w1.heap.size = B at *
 have hgB : g < B := by omega
 have c1 : Cl0 F ts w w1 b l g t pre k0 B { s with d := dec s.d } n Sl.nil Sl.nil Sl.nil := ⟨t1.r, nb1, ⟨by rw [hen]; exact SlG.nil _ _ _ _ _ _, by rw [hlv]; exact SlG.nil _ _ _ _ _ _, by rw [hmv]; exact Own.nil _ _ _ _ _ _⟩,
  ⟨[], t1.z.o.weaken fun x hx => .inl (by simp only [List.mem_singleton] at hx; simp [hx]), fun x hx => (by cases hx)⟩, hg, by omega, by omega, hgB, zk, Nat.le_of_eq hBB.symm⟩
 have hbB : b < B := by omega
 unfold bodyS
 dsimp only
 generalize hC : clausesS ts (ts.length + 1) n ⟨false, false, false⟩ { s with d := dec s.d } = C
 have hCon : On ts { s with d := dec s.d } C.2 := by rw [<- hC]; exact clauses_on h.en _ _ _ _
 refine ⟨fun nv b0 b1 b2 b3 w' => ∃ (n' : Nb) (hd : Had) (s' : Sx) (en lv mv : Sl), b0 = false /\ b1 = hd.i /\ b2 = hd.e /\ b3 = hd.l /\ Cl0 F ts w w' b l g t pre k0 B s' n' en lv mv /\ clausesS ts nv n' hd s' = C /\ mu ts s' < nv /\ n'.mv.length + mu ts s' <= ts.length, ts.length + 1,
  ⟨n, ⟨false, false, false⟩, _, _, _, _, rfl, rfl, rfl, rfl, c1, hC, Nat.lt_succ_of_le (mu_le _ _), by rw [hmv, List.length_nil, Nat.zero_add]; exact mu_le _ _⟩, ?_⟩
 rintro nv _ _ _ _ w2 ⟨n', hd', s', en, lv, mv, rfl, rfl, rfl, rfl, c2, hR, hf1, hm1⟩
 obtain ⟨m, rfl⟩ : ∃ m, nv = m + 1 := ⟨nv - 1, by omega⟩
 rw [clausesS] at hR
 refine ⟨fun b4 b5 b6 b7 b8 w' => (b4 = true /\ ∃ (n' : Nb) (hd : Had) (s' : Sx) (en lv mv : Sl), b5 = false /\ b6 = hd.i /\ b7 = hd.e /\ b8 = hd.l /\ Cl0 F ts w w' b l g t pre k0 B s' n' en lv mv /\ clausesS ts m n' hd s' = C /\ mu ts s' < m /\ n'.mv.length + mu ts s' <= ts.length) ∨
  (b4 = false /\ ∃ (en lv mv : Sl), Cl0 F ts w w' b l g t pre k0 B C.2 C.1 en lv mv), ?_, (sfine_c c2.r).mono ?_⟩
 rotate_left
 · rintro _ w29 ⟨rfl, hO29⟩
   have c29 := c2.q hO29
   refine ⟨_, rfl, c2.sq hO29, fun hc hBk => ?_, fun hc => ?_⟩
   · have hc : s'.fc = 0 := by simpa using hc
     rw [if_neg (by simp [hc])] at hR
     have hml := mu_le ts s'
     have hlt := c2.r.lt
     have hmu0 : 0 < mu ts s' := by unfold mu; rw [if_pos hc]; omega
     have hlen := clause_len (ts := ts) n' hd' s'
     refine (sclause_c (c29.cl (h := hd') hBk) (by omega)).mono ?_
     rintro _ w30 ⟨rfl, en', lv', mv', c30⟩
     refine ⟨_, rfl, _, _, _, _, c30.hb, ?_⟩
     cases hcl : (clauseS ts n' hd' s').1 with
     | true =>
      rw [if_pos hcl] at hR
      have hmu := clause_mu h.en n' hd' hc hlt hcl
      exact .inl ⟨rfl, _, _, _, _, _, _, rfl, rfl, rfl, rfl, c30.c0, hR, by omega, by omega⟩
     | false =>
      rw [if_neg (by rw [hcl]; decide)] at hR
      refine .inr ⟨rfl, en', lv', mv', ?_⟩
      rw [<- hR]
      exact c30.c0
   · have hc : s'.fc ≠ 0 := by simpa using hc
     rw [if_pos hc] at hR
     refine .inr ⟨rfl, en, lv, mv, ?_⟩
     rw [<- hR]
     exact c29
 clear hR hf1 hm1 c2
 rintro b4 b5 b6 b7 b8 w3 (⟨rfl, hh⟩ | ⟨rfl, en, lv, mv, c3⟩)
 · exact ⟨fun _ => ⟨m, Nat.lt_succ_self _, hh⟩, fun hh => (by cases hh)⟩
 refine ⟨fun hh => (by cases hh), fun _ => ?_⟩
 generalize C.1 = n1 at *
 generalize C.2 = s1 at *
 have hsB : B <= w3.heap.size := c3.lB
 have no3 : NbR true w3 (fun k => B <= k /\ k < w3.heap.size) n1 en lv mv :=
  ⟨(c3.no.en.inHeap (rAc_ok true) (by decide)).mono (rAc_ok true) fun k hk => ⟨hk.1.1, hk.2⟩, (c3.no.lv.inHeap (rAc_ok true) (by decide)).mono (rAc_ok true) fun k hk => ⟨hk.1.1, hk.2⟩, (c3.no.mv.sl (rMv_ok true) fun k hk => hk).inHeap (rMv_ok true) (by decide)⟩
 obtain ⟨gs3, o3, o3'⟩ := c3.o
 have o3 : Only [b, g] w w3 := o3.weaken fun x hx => by
  simp only [List.mem_cons] at hx
  rcases hx with rfl | rfl | rfl | hx
  · exact .inl (by simp)
  · exact .inl (by simp)
  · exact .inr hk0
  · exact .inr (Nat.le_trans zw1 (o3' x hx))
 have k3 : Kd F ts w w3 b l g t pre f B w3.heap.size n1 en lv mv s1 [] Sl.nil := ⟨c3.r, c3.nb, no3, Own.nil _ _ _ _ _ _, o3, Nat.le_refl _⟩
 generalize hB2 : w3.heap.size = B2 at *
 clear c3 no3 o3 o3' hC
 generalize hK : kidsS ts (nodeS ts f) (ts.length + 1) [] s1 = K
 have sk : ∀ {u u' : World} {x y : Sx}, B2 <= u.heap.size -> Dn F ts u u' b l y -> Same [k0] u u' := fun hz k => k.o.same fun x hx => by
  simp only [List.mem_singleton] at hx ⊢
  omega
 have nxk : ∀ {u u' : World} {x y : Sx} {acc : List Nd} {kids : Sl}, Kd F ts w u b l g t pre f B B2 n1 en lv mv x acc kids -> Dn F ts u u' b l y -> Kd F ts w u' b l g t pre f B B2 n1 en lv mv y acc kids := fun a k => a.nx hg.1 hbB hsB k
 have go : ∀ {u : World} {x : Sx} {acc : List Nd} {kids : Sl}, Kd F ts w u b l g t pre f B B2 n1 en lv mv x acc kids -> ∃ (q : Sl) (u2 : World), (Instr.buildSlice 57 4 #[.mk 0 (.string (ByteArray.mk #[115, 116, 97, 116, 101])), .mk 1 (.string (ByteArray.mk #[112, 97, 114, 97, 108, 108, 101, 108])), .mk 2 (.string (ByteArray.mk #[104, 105, 115, 116, 111, 114, 121])), .mk 3 (.string (ByteArray.mk #[100, 101, 101, 112]))]).run Tryz.prog u = .ok q.v u2 /\ Same [k0] u u2 /\ Calls Tryz.prog 78 #[rp b, q.v] u2 fun e u3 => e = .returned (.int .i64 (whichS ts x wKinds : Nat)) /\ Same [k0] u2 u3 /\ Kd F ts w u3 b l g t pre f B B2 n1 en lv mv x acc kids := fun {u x acc kids} a => by
  obtain ⟨q, u2, e1, hO, hm⟩ := swh_c a.r wKinds (n := 4) (parts := #[(0, .string (T wState)), (1, .string (T wParallel)), (2, .string (T wHistory)), (3, .string (T wDeep))]) rfl rfl (by decide) (by decide)
  have a2 := nxk a (a.r.dn.q hO)
  refine ⟨q, u2, e1, sk (x := x) a.lB (a.r.dn.q hO), hm.mono ?_⟩
  rintro _ u3 ⟨rfl, hO3⟩
  exact ⟨rfl, sk (x := x) a2.lB (a2.r.dn.q hO3), nxk a2 (a2.r.dn.q hO3)⟩
 obtain ⟨q, w4, e1, hs4, hm4⟩ := go k3
 refine ⟨q, w4, e1, hs4, hm4.mono ?_⟩
 rintro _ w5 ⟨rfl, hs5, k5⟩
 refine ⟨_, rfl, hs5, fun nv i2 _ _ _ _ w' => ∃ (s' : Sx) (acc : List Nd) (kids : Sl), i2 = ((whichS ts s' wKinds : Nat) : Int) /\ Kd F ts w w' b l g t pre f B B2 n1 en lv mv s' acc kids /\ kidsS ts (nodeS ts f) nv acc s' = K /\ mu ts s' < nv /\ acc.length + mu ts s' <= ts.length /\ s'.d = dec s.d /\ (s'.fc = 0 -> s.fc = 0), ts.length + 1,
  ⟨s1, [], Sl.nil, rfl, k5, hK, Nat.lt_succ_of_le (mu_le _ _), by rw [List.length_nil, Nat.zero_add]; exact mu_le _ _, hCon.d, fun e => (hCon.le e).1⟩, ?_⟩
 clear hs5 k5 hm4 hs4 e1 k3 hK
 rintro nv _ b9 b10 b11 b12 w6 ⟨s', acc, kids, rfl, k6, hR, hf1, hm1, hd6, hz6⟩
 obtain ⟨m', rfl⟩ : ∃ m', nv = m' + 1 := ⟨nv - 1, by omega⟩
 rw [kidsS] at hR
 have hkb : k0 ≠ b := t0.ne (by simp)
 have hkg : k0 ≠ g := by omega
 refine ⟨fun hc => ?_, fun hc => ?_⟩
 · have hc := pos1 hc
   rw [if_neg hc] at hR
   obtain ⟨hfc, hk5⟩ := which_ne hc
   obtain ⟨hf0, hNC⟩ := hN (hz6 hfc)
   have hlt := k6.r.lt
   refine ⟨_, Blk.at1 k6.r.blk 1 rfl, b, 1, _, _, rfl, k6.r.blk, by simp, hkb, fun w7 hO7 hB7 => ?_⟩
   rw [k6.r.wr] at hB7
   have k7 := nxk k6 (y := nextS s') ⟨hO7, k6.r.turn hO7 hB7 (which_next k6.r hc)⟩
   have hsm := h.sm
   have hmul := mu_le ts s'
   have hon := node_on h.en f (whichS ts s' wKinds : Nat) (nextS s') (by show InI s'.d; rw [hd6]; exact wrapIn _)
   have hmu := next_mu h.en hfc hlt hk5 hon.toOn0
   generalize whichS ts s' wKinds = kk at *
   generalize hNx : nodeS ts f (kk : Int) (nextS s') = N at *
   have hond : N.2.d = dec s.d := hon.d.trans hd6
   have honz : N.2.fc = 0 -> s.fc = 0 := fun e => hz6 (hon.le e).1
   refine ⟨fun _ _ _ _ w' => ∃ kids', Kd F ts w w' b l g t pre f B B2 n1 en lv mv N.2 (acc ++ [N.1]) kids', fun b13 b14 b15 b16 w8 h8 => ?_, fun w11 hO11 => ?_⟩
   · obtain ⟨kids', k8⟩ := h8
     obtain ⟨q, w9, e1, hs9, hm9⟩ := go k8
     refine ⟨q, w9, e1, hs9, hm9.mono ?_⟩
     rintro _ w10 ⟨rfl, hs10, k10⟩
     exact ⟨_, rfl, hs10, m', Nat.lt_succ_self _, _, _, _, rfl, k10, hR, by omega, by rw [List.length_append, List.length_singleton]; omega, hond, honz⟩
   · have k11 := nxk k7 (k7.r.dn.q hO11)
     have z11 := k11.lB
     have hrun : ∀ {u : World}, Sr F ts u b l (nextS s') -> Calls Tryz.prog 80 #[rp b, .int .i64 (kk : Int)] u fun e w' => ∃ cs, e = .returned (.agg cs.toArray) /\ rNd true f w' (Fr u.heap.size) N.1 cs /\ Dn F ts u w' b l N.2 := fun hu => by
      have := hNC (kk : Int) (nextS s') _ hu hd6
      rw [hNx] at this
      exact this
     have keepg : ∀ {u u' : World} {bs : List Nat}, Only bs u u' -> (∀ x, x ∈ bs -> x ≠ g) -> Keeps (fun k => k = g) u u' := fun hO hb k hk hlt => by subst hk; exact hO.block k hlt fun hm => hb k hm rfl
     have zc : Value.cells (.agg (ndv 0 [] [] [] Sl.nil Sl.nil Sl.nil Sl.nil 0).toArray) = (ndv 0 [] [] [] Sl.nil Sl.nil Sl.nil Sl.nil 0).toArray := rfl
     have hz : ∀ (u : World), ∃ (y : Sl) (u2 : World), (Instr.buildSlice 25 1 #[.mk 0 (.agg (ndv 0 [] [] [] Sl.nil Sl.nil Sl.nil Sl.nil 0).toArray)]).run Tryz.prog u = .ok y.v u2 /\ Own (rNd true f) 9 27 u.heap.size u2 (fun _ => False) y [nd0] /\ Only [] u u2 := fun u => by
      obtain ⟨y, u2, a1, a2, a3, _⟩ := build_own (P := Tryz.prog) (t := 25) (e := 27) (i := Tryz.t27) (w := u) (F := fun _ => False) (r := rNd true f) (size := 9) (vs := [.agg (ndv 0 [] [] [] Sl.nil Sl.nil Sl.nil Sl.nil 0).toArray]) (xs := [nd0]) (len := 1) (parts := #[(0, .agg (ndv 0 [] [] [] Sl.nil Sl.nil Sl.nil Sl.nil 0).toArray)]) (by kernel_rfl) (by kernel_rfl) rfl rfl (by decide) rfl rfl (by decide) (by decide) (rNd_ok true f) ⟨⟨rfl, nd0_r hf0 _ _⟩, trivial⟩
      exact ⟨y, u2, a1, a2, a3⟩
     have happ : ∀ {u : World} {y : Sl} {A : Nat}, B2 <= A -> NdO f B2 u kids acc -> (∀ k, A <= k -> kids.a ≠ some ⟨k, 0, none⟩) -> SliceF (rNd true f) 9 u (Fr A) y [nd0] -> A <= u.heap.size -> ∃ (s8 : Sl) (u2 : World), (Builtin.append_ #[25, 25] 25 #[kids.v, y.v]).run Tryz.prog u = .ok s8.v u2 /\ NdO f B2 u2 s8 (acc ++ [nd0]) /\ (∃ gs, Only gs u u2 /\ ∀ x, x ∈ gs -> B2 <= x /\ x < A) /\ (∀ k, A <= k -> k < u.heap.size -> s8.a ≠ some ⟨k, 0, none⟩) := fun {u y A} hA ho hk hy hAu => by
      obtain ⟨s8, u2, a1, a2, gs, a3, a4, a5⟩ := app_own (P := Tryz.prog) (t := 25) (ty := 25) (e := 27) (i := Tryz.t27) (bytes := 160) (size := 9) (y := y) (ys := [nd0]) (by kernel_rfl) (by kernel_rfl) rfl rfl rfl rfl (rNd_ok true f) ho (hy.mono (rNd_ok true f) fun k hk' => ⟨Nat.le_trans hA hk', hk k hk'⟩) (Nat.le_trans hA hAu) (by rw [List.length_singleton]; omega) (by decide)
      refine ⟨s8, u2, a1, a2, ⟨gs, a3, fun x hx => ⟨(a4 x hx).2.1, ?_⟩⟩, fun k h1 h2 => ?_⟩
      · exact Nat.lt_of_not_le fun hle => hk x hle (a4 x hx).1
      · rcases a5 with a5 | a5
        · rw [a5]; exact hk k h1
        · rw [a5]
          intro e
          injection e with e
          injection e with e
          omega
     have hfin : ∀ {u : World} {s8 : Sl}, Sr F ts u b l N.2 -> Blk u g t (pre ++ ndv n1.k n1.nm n1.ini n1.dft en lv mv kids n1.a) -> NbR true u (fun k => B <= k /\ k < B2) n1 en lv mv -> Only [b, g] w u -> B2 <= u.heap.size -> NdO f B2 u s8 (acc ++ [nd0]) -> ∀ w', Blk w' g t (pre ++ ndv n1.k n1.nm n1.ini n1.dft en lv mv s8 n1.a) -> NdO f B2 w' s8 (acc ++ [N.1]) -> (∃ gk, B2 <= gk /\ Only [g, gk] u w') -> ∃ kids', Kd F ts w w' b l g t pre f B B2 n1 en lv mv N.2 (acc ++ [N.1]) kids' := fun hr hnb hno ho hz _ w' h1 h2 ⟨gk, h3, h4⟩ =>
      ⟨_, hr.far h4 fun x hx => (by
       simp only [List.mem_cons, List.not_mem_nil, or_false] at hx
       rcases hx with rfl | rfl
       · exact hg
       · exact hr.gt (by omega)), h1, hno.keep fun i hi hlt => h4.block i hlt (by simp only [List.mem_cons, List.not_mem_nil, or_false]; omega), h2, ho.trans h4 fun x hx => by
       simp only [List.mem_cons, List.not_mem_nil, or_false] at hx ⊢
       omega, Nat.le_trans hz h4.size⟩
     refine ⟨fun k => k = g, _, rfl, rfl, kids, k11.nb.at0 (pre.length + 7) (pre_get rfl), (hrun k11.r).mono ?_, ?_⟩
     · rintro _ w12 ⟨cs, rfl, hx, h12⟩
       have k12 := nxk k11 h12
       have hx' := hx
       obtain ⟨f', rfl⟩ : ∃ f', f = f' + 1 := ⟨f - 1, by omega⟩
       obtain ⟨xe, xl, xm, xk, rfl, _⟩ := hx'
       obtain ⟨y, w13, e2, hy, hO13⟩ := hz w12
       have k13 := nxk k12 (k12.r.dn.q hO13)
       obtain ⟨s8, w14, e3, own8, ⟨gs, hO14, hgs⟩, hs8⟩ := happ (u := w13) (y := y) (A := w11.heap.size) z11 k13.kd (fun k hk => k11.kd.new hk) ((hy.slice (rNd_ok true _)).mono (rNd_ok true _) fun k hk => (by
        rcases hk with hk | hk
        · exact hk.elim
        · exact Nat.le_trans h12.o.size hk.1)) (Nat.le_trans h12.o.size hO13.size)
       have hgn : ∀ x, x ∈ gs -> x ≠ g := fun x hx => by have := (hgs x hx).1; omega
       have z14 := hO14.size
       have z13 := k13.lB
       have z12 := h12.o.size
       refine ⟨_, _, _, _, xe, xl, xm, xk, _, rfl, sk (x := s') k11.lB h12, keepg h12.o (by simp only [List.mem_singleton]; omega), y, w13, e2, sk (x := s') k12.lB (k12.r.dn.q hO13), keepg hO13 (by simp), s8, w14, e3, hO14.same (fun x hx => ?_), keepg hO14 hgn, ?_⟩
       · simp only [List.mem_singleton] at hx
         subst hx
         exact ⟨by omega, fun hm => by have := (hgs x hm).1; omega⟩
       · refine kid_store (H := fun k => w11.heap.size <= k /\ k < w12.heap.size) (acc := acc) ?_ (fun k hk _ => ⟨Nat.le_trans z11 hk.1, hs8 k hk.1 (Nat.lt_of_lt_of_le hk.2 hO13.size)⟩) (fun k hk => Nat.le_trans z11 hk.1) own8 k11.kd.len (hO14.blk k13.nb fun hm => hgn g hm rfl) (by omega) (by omega) hkg (hfin (k13.r.own hO14 fun x hx => (by have := (hgs x hx).1; omega)) (hO14.blk k13.nb fun hm => hgn g hm rfl) (k13.no.keep fun i hi hlt => hO14.block i hlt fun hm => (by have := (hgs i hm).1; omega)) (k13.o.trans hO14 fun x hx => .inr (by have := (hgs x hx).1; have := k11.o.size; omega)) (Nat.le_trans z13 z14) own8)
         refine (rNd_ok true _).keep ((rNd_ok true _).inHeap hx) fun k hk hlt => ?_
         exact (hO14.block k (Nat.lt_of_lt_of_le hlt hO13.size) fun hm => by have := (hgs k hm).2; have := hk.1; omega).trans (hO13.block k hlt (by simp))
     · obtain ⟨y, w19, e2, hy, hO19⟩ := hz w11
       have k19 := nxk k11 (k11.r.dn.q hO19)
       refine ⟨y, w19, e2, sk (x := s') k11.lB (k11.r.dn.q hO19), keepg hO19 (by simp), (hrun k19.r).mono ?_⟩
       rintro _ w20 ⟨cs, rfl, hx, h20⟩
       have k20 := nxk k19 h20
       have hx' := hx
       obtain ⟨f', rfl⟩ : ∃ f', f = f' + 1 := ⟨f - 1, by omega⟩
       obtain ⟨xe, xl, xm, xk, rfl, _⟩ := hx'
       have hy20 := (((hy.slice (rNd_ok true _)).inHeap (rNd_ok true _) (by decide)).keep (rNd_ok true _) (by decide) (w' := w20) fun k hk hlt => h20.o.block k hlt (by
        rcases hk.1 with hk | hk
        · exact hk.elim
        · have := hk.1; simp only [List.mem_singleton]; omega)).mono (rNd_ok true _) (G := Fr w11.heap.size) fun k hk => (by
        rcases hk.1 with hk | hk
        · exact hk.elim
        · exact hk.1)
       obtain ⟨s8, w21, e3, own8, ⟨gs, hO21, hgs⟩, hs8⟩ := happ (u := w20) (y := y) (A := w11.heap.size) z11 k20.kd (fun k hk => k11.kd.new hk) hy20 (Nat.le_trans hO19.size h20.o.size)
       have hgn : ∀ x, x ∈ gs -> x ≠ g := fun x hx => by have := (hgs x hx).1; omega
       have z21 := hO21.size
       have z20 := k20.lB
       have z19 := hO19.size
       refine ⟨_, _, _, _, xe, xl, xm, xk, _, rfl, sk (x := s') k19.lB h20, keepg h20.o (by simp only [List.mem_singleton]; omega), s8, w21, e3, hO21.same (fun x hx => ?_), keepg hO21 hgn, ?_⟩
       · simp only [List.mem_singleton] at hx
         subst hx
         exact ⟨by omega, fun hm => by have := (hgs x hm).1; omega⟩
       · refine kid_store (H := fun k => w19.heap.size <= k /\ k < w20.heap.size) (acc := acc) ?_ (fun k hk _ => ⟨by show B2 <= k; omega, hs8 k (by omega) hk.2⟩) (fun k hk => by omega) own8 k11.kd.len (hO21.blk k20.nb fun hm => hgn g hm rfl) (by omega) (by omega) hkg (hfin (k20.r.own hO21 fun x hx => (by have := (hgs x hx).1; omega)) (hO21.blk k20.nb fun hm => hgn g hm rfl) (k20.no.keep fun i hi hlt => hO21.block i hlt fun hm => (by have := (hgs i hm).1; omega)) (k20.o.trans hO21 fun x hx => .inr (by have := (hgs x hx).1; have := k11.o.size; omega)) (Nat.le_trans z20 z21) own8)
         refine (rNd_ok true _).keep ((rNd_ok true _).inHeap hx) fun k hk hlt => ?_
         exact hO21.block k hlt fun hm => by have := (hgs k hm).2; have := hk.1; omega
 · have hc := pos0 hc
   rw [if_pos hc] at hR
   refine ⟨_, Blk.at1 k6.r.blk 6 rfl, b, 6, _, _, rfl, k6.r.blk, by simp, hkb, fun w26 hO26 hB26 => ?_⟩
   have k26 := nxk k6 (y := { s' with d := inc s'.d }) ⟨hO26, k6.r.turn hO26 hB26 k6.r.lt⟩
   obtain ⟨q, w27, e1, hO27, hm⟩ := sms_c k26.r [125]
   have k27 := nxk k26 (k26.r.dn.q hO27)
   refine ⟨q, w27, e1, sk (x := s') k26.lB (k26.r.dn.q hO27), hm.mono ?_⟩
   rintro _ w28 ⟨rfl, h28⟩
   have k28 := nxk k27 h28
   refine ⟨rfl, sk (x := s') k27.lB h28, rfl, _, k28.nb, ?_, k28.o, ?_⟩
   · rw [<- hR]
     refine ⟨en, lv, mv, kids, rfl, k28.no.mono fun k hk => Nat.le_trans zw1 hk.1, (k28.kd.sl (rNd_ok true f) fun k hk => hk).low (rNd_ok true f) (by omega)⟩
   · rw [<- hR]
     exact k28.r
end
end Go.Proofs.YtndkfaaeeojeiaaGreatDoor.Con
namespace Go.Proofs.YtndkfaaeeojeiaaGreatDoor.Con
open Go Go.RowKit Go.Kt Go.Kt.V
set_option linter.unusedSimpArgs false
set_option linter.unusedVariables false
set_option maxHeartbeats 4000000
def Tk.Good (t : Tk) : Prop := (t.k = 2 -> ∃ c r, t.t = c :: r /\ wordB c = true) /\ (t.k = 4 -> ∃ c r, t.t = c :: r /\ wordB c = false) /\ 0 <= t.n /\ t.n <= 9223372036854775807
theorem tok_good {m : List UInt8} {q : Tq} (h : tokR m = .ok q) : q.1 ≠ 5 /\ ∀ a, Tk.Good ⟨q.1, q.2.1, q.2.2.1, a⟩ := by
 cases m with
 | nil => cases h
 | cons c r =>
  simp only [tokR] at h
  split at h
  · rename_i hc
    unfold wordR at h
    split at h
    · cases h
    · injection h with h
      subst h
      have hw : wordB c = true := by unfold wordB; rw [hc]; rfl
      refine ⟨by dsimp only; split <;> decide, fun a => ⟨fun _ => ?_, fun h4 => ?_, by dsimp only; decide, by dsimp only; decide⟩⟩
      · dsimp only
        rw [List.takeWhile_cons, if_pos hw]
        exact ⟨c, _, rfl, hw⟩
      · dsimp only at h4
        split at h4 <;> exact absurd h4 (by decide)
  · rename_i hl
    split at h
    · rename_i hc
      unfold numR at h
      split at h
      · cases h
      · split at h
        · cases h
        · injection h with h
          subst h
          refine ⟨by dsimp only; decide, fun a => ⟨fun h => absurd h (by dsimp only; decide), fun h => absurd h (by dsimp only; decide), by dsimp only; omega, ?_⟩⟩
          dsimp only
          unfold parseM
          split
          · dsimp only; decide
          · split
            · dsimp only; decide
            · split
              · dsimp only; omega
              · dsimp only; decide
    · rename_i hd
      unfold signR at h
      split at h
      · cases h
      · rename_i hs
        injection h with h
        subst h
        refine ⟨by dsimp only; decide, fun a => ⟨fun h => absurd h (by dsimp only; decide), fun _ => ?_, by dsimp only; decide, by dsimp only; decide⟩⟩
        obtain ⟨n, hn⟩ : ∃ n, signN (c :: r) = n + 1 := ⟨signN (c :: r) - 1, by omega⟩
        dsimp only
        rw [hn, List.take_succ_cons]
        refine ⟨c, _, rfl, ?_⟩
        unfold wordB
        rw [Bool.or_eq_false_iff]
        exact ⟨by simpa using hl, by simpa using hd⟩
theorem toks_all {l : List UInt8} : ∀ (n i : Nat), i <= l.length -> l.length - i <= n -> ∀ r, toks l i = .ok r -> ∃ (fr : List Tk) (a : Int), r = fr ++ [⟨5, [], 0, a⟩] /\ (∀ t, t ∈ fr -> t.k ≠ 5 /\ t.Good) /\ r.length <= l.length - i + 1
 | n, i, hi, hn, r, h => by
  rw [toks_step hi] at h
  split at h
  · injection h with h
    exact ⟨[], _, h.symm, fun t ht => (by cases ht), by rw [<- h, List.length_singleton]; omega⟩
  · split at h
    · cases h
    · rename_i q hq
      have q1 := tok_len hq
      have q2 := tok_le hq
      rw [List.length_drop] at q2
      split at h
      · cases h
      · rename_i r' hr'
        injection h with h
        subst h
        match n, hn with
        | 0, hn => omega
        | n + 1, hn =>
         obtain ⟨fr, a, e, hf, hl⟩ := toks_all n _ (by omega) (by omega) _ hr'
         have hg := tok_good hq
         refine ⟨_ :: fr, a, by rw [e]; rfl, fun t ht => ?_, by rw [List.length_cons]; omega⟩
         rcases List.mem_cons.1 ht with rfl | ht
         · exact ⟨hg.1, hg.2 _⟩
         · exact hf t ht
theorem endL_of {fr : List Tk} {a : Int} (h : ∀ t, t ∈ fr -> t.k ≠ 5) : EndL (fr ++ [⟨5, [], 0, a⟩]) := fun i hi => by
 rw [List.length_append, List.length_singleton] at hi
 unfold tk
 by_cases hl : i < fr.length
 · rw [List.getElem?_append_left hl, List.getElem?_eq_getElem hl, Option.getD_some, List.length_append, List.length_singleton]
   exact ⟨fun e => absurd e (h _ (List.getElem_mem hl)), fun e => by omega⟩
 · have e : i = fr.length := by omega
   subst e
   rw [List.getElem?_append_right (Nat.le_refl _), Nat.sub_self, List.length_append, List.length_singleton]
   exact ⟨fun _ => rfl, fun _ => rfl⟩
theorem toks_er {l : List UInt8} : ∀ (n i : Nat), i <= l.length -> l.length - i <= n -> ∀ x, toks l i = .error x -> x.1 ≠ 0
 | n, i, hi, hn, x, h => by
  rw [toks_step hi] at h
  split at h
  · cases h
  · split at h
    · rename_i e hq
      injection h with h
      subst h
      exact tok_err hq
    · rename_i q hq
      have q1 := tok_len hq
      have q2 := tok_le hq
      rw [List.length_drop] at q2
      split at h
      · rename_i y hy
        injection h with h
        subst h
        match n, hn with
        | 0, hn => omega
        | n + 1, hn => exact toks_er n _ (by omega) (by omega) _ hy
      · cases h
theorem tokensM_ok {l : List UInt8} (h : (tokensM l).2.1 = 0) : EndL (tokensM l).1 /\ (∀ t, t ∈ (tokensM l).1 -> t.Good) /\ 0 < (tokensM l).1.length /\ (tokensM l).1.length <= 16385 := by
 unfold tokensM at h ⊢
 split at h
 · cases h
 · rename_i hl
   rw [if_neg hl]
   cases hr : toks l 0 with
   | error x =>
    rw [hr] at h
    exact absurd h (toks_er l.length 0 (Nat.zero_le _) (by omega) _ hr)
   | ok r =>
    obtain ⟨fr, a, e, hf, hn⟩ := toks_all l.length 0 (Nat.zero_le _) (by omega) r hr
    dsimp only
    subst e
    refine ⟨endL_of fun t ht => (hf t ht).1, fun t ht => ?_, by rw [List.length_append, List.length_singleton]; omega, by omega⟩
    rcases List.mem_append.1 ht with ht | ht
    · exact (hf t ht).2
    · simp only [List.mem_singleton] at ht
      subst ht
      exact ⟨fun h => absurd h (by dsimp only; decide), fun h => absurd h (by dsimp only; decide), by dsimp only; decide, by dsimp only; decide⟩
end Go.Proofs.YtndkfaaeeojeiaaGreatDoor.Con
namespace Go.Proofs.YtndkfaaeeojeiaaGreatDoor.Con
open Go Go.RowKit Go.Kt Go.Kt.V Go.Proofs.YtndkfaaeeojeiaaGreatDoor.Vc
set_option linter.unusedSimpArgs false
set_option linter.unusedVariables false
set_option maxHeartbeats 4000000
section
variable {F : Nat -> Prop} {ts : List Tk} {w w' w2 : World} {b : Nat} {l : Sl} {s s' : Sx}
theorem snode_c : ∀ (f : Nat) (d : Int), 0 <= d -> d < f -> d <= 9223372036854775807 -> NodeC F ts b l f d
 | 0, d, h0, h1, _ => by omega
 | f + 1, d, h0, h1, h2 => by
  intro k u w h hd
  refine (v110w ⟨b, 0, none⟩ k (fun v w' => ∃ cs, v = (.agg cs.toArray) /\ rNd true (f + 1) w' (Fr w.heap.size) (nodeS ts (f + 1) k u).1 cs /\ Dn F ts w w' b l (nodeS ts (f + 1) k u).2) w ?_).mono (by
   rintro e w' ⟨v, rfl, cs, rfl, h⟩; exact ⟨cs, rfl, h⟩)
  unfold v110v
  intro k0 w0 hk0 hk0' hO0
  have t0 := h.zt.al hO0 hk0 hk0'
  refine (snamed_c t0.r k).mono ?_
  rintro _ w1 ⟨rfl, h1'⟩
  have t1 := t0.nx h1'
  have hon := named_on h.en k u
  have hnd := named_d (ts := ts) (k := k) (s := u)
  rw [nodeS]
  have hnb : (namedS ts k u).1.ini = [] /\ (namedS ts k u).1.dft = [] /\ (namedS ts k u).1.en = [] /\ (namedS ts k u).1.lv = [] /\ (namedS ts k u).1.mv = [] := ⟨rfl, rfl, rfl, rfl, rfl⟩
  generalize namedS ts k u = N at *
  obtain ⟨nb, u1⟩ := N
  dsimp only at *
  obtain ⟨i1, i2, i3, i4, i5⟩ := hnb
  obtain ⟨nk, nnm, nini, ndft, nen, nlv, nmv, na⟩ := nb
  dsimp only at i1 i2 i3 i4 i5
  subst i1 i2 i3 i4 i5
  dsimp only at *
  refine ⟨_, _, _, _, Sl.nil, Sl.nil, Sl.nil, Sl.nil, _, rfl, t0.sc h1' (by simp), fun hc k1 w2 hk1 hk1' hO2 => ?_, fun hc k2 w10 hk2 hk2' hO10 => ?_⟩
  · rw [if_pos (by have := of_decide_eq_true hc; omega)]
    have t2 := t1.al hO2 hk1 hk1'
    obtain ⟨q, w3, e1, hO3, hm⟩ := sms_c t2.r [45, 62]
    have t3 := t2.q hO3
    refine ⟨q, w3, e1, t2.sq hO3 (by simp), hm.mono ?_⟩
    rintro _ w4 ⟨rfl, h4⟩
    have t4 := t3.nx h4
    refine ⟨rfl, t3.sc h4 (by simp), (sname_c t4.r).mono ?_⟩
    rintro _ w5 ⟨rfl, h5⟩
    have t5 := t4.nx h5
    refine ⟨_, rfl, t4.sc h5 (by simp), fun w6 hO6 => ?_⟩
    have t6 := t5.f hO6 (by simp)
    obtain ⟨q, w7, e1, hO7, hm⟩ := sms_c t6.r [59]
    have t7 := t6.q hO7
    refine ⟨q, w7, e1, t6.sq hO7 (by simp), hm.mono ?_⟩
    rintro _ w8 ⟨rfl, h8⟩
    have t8 := t7.nx h8
    refine ⟨rfl, t7.sc h8 (by simp), fun w9 hO9 => ⟨_, rfl, ⟨Sl.nil, Sl.nil, Sl.nil, Sl.nil, rfl, ⟨SlG.nil _ _ _ _ _ _, SlG.nil _ _ _ _ _ _, SlG.nil _ _ _ _ _ _⟩, SlG.nil _ _ _ _ _ _⟩, (t8.f hO9 (by simp)).dn⟩⟩
  · rw [if_neg (by have := of_decide_eq_false hc; omega)]
    have t10 := t1.al hO10 hk2 hk2'
    obtain ⟨q, w11, e1, hO11, hm⟩ := sms_c t10.r [123]
    have t11 := t10.q hO11
    refine ⟨q, w11, e1, t10.sq hO11 (by simp), hm.mono ?_⟩
    rintro _ w12 ⟨rfl, h12⟩
    have t12 := t11.nx h12
    have hms := must_on (s := u1) h.en [123]
    refine ⟨rfl, t11.sc h12 (by simp), fun hB _ => ?_⟩
    have hsd : (mustS ts u1 [123]).d = d := hms.d.trans (hon.d.trans hd)
    refine (sbody_c (f := f) t12.r (pre := []) (n := ⟨nk, nnm, [], [], [], [], [], na⟩) rfl rfl rfl hB (t12.r.gt (t12.lt (by simp))) (by rw [hsd]; exact ⟨by omega, h2⟩) (fun hf => ?_)).mono ?_
    · have hd0 := hnd (hms.le hf).1
      rw [hd] at hd0
      have hdd : dec d = d - 1 := by unfold dec; rw [wr' (by omega) (by omega)]
      rw [hsd, hdd]
      exact ⟨by omega, snode_c f (d - 1) (by omega) (by omega) (by omega)⟩
    · rintro _ w13 ⟨rfl, cs, hB13, hx, hO13, hr13⟩
      have hx' := hx
      obtain ⟨xe, xl, xm, xk, rfl, _⟩ := hx'
      have z13 : Fz [b] w w13 [k2, k0] := t12.z.go hO13 fun x hx => (by simp only [List.mem_cons, List.not_mem_nil, or_false] at hx ⊢; omega)
      have l2 := t12.lt (k0 := k2) (by simp)
      have l0 := t12.lt (k0 := k0) (by simp)
      have k0l := (t1.z.k k0 (by simp)).2
      refine ⟨rfl, t12.z.sm hO13 (by simp) (fun x hx => ?_), _, _, _, _, xe, xl, xm, xk, _, hB13, fun w14 hO14 hB14 => ⟨_, rfl, ?_, ?_⟩⟩
      · simp only [List.mem_cons, List.not_mem_nil, or_false] at hx
        rcases hx with rfl | rfl
        · exact .inl (by simp)
        · exact .inr fun y hy => by simp only [List.mem_singleton] at hy; omega
      · refine (rNd_ok true _).low ((rNd_ok true _).stay hx ((Stay.refl _ _).f hO14 (.inl ?_))) t12.z.o.size
        have := (t12.z.k k0 (by simp)).2
        exact this
      · exact ⟨(z13.f hO14 (by simp)).o, hr13.one hO14 l0⟩
theorem svar_c (h : Sr F ts w b l s) (hg : ∀ t, t ∈ ts -> t.Good) : Calls Tryz.prog 41 #[rp b] w fun e w' => e = .returned (.agg #[.string (T (varS ts s).1.n), .int .i64 (varS ts s).1.v, .int .i64 (varS ts s).1.a]) /\ Dn F ts w w' b l (varS ts s).2 := by
 refine ret (v113w ⟨b, 0, none⟩ (fun v w' => v = (.agg #[.string (T (varS ts s).1.n), .int .i64 (varS ts s).1.v, .int .i64 (varS ts s).1.a]) /\ Dn F ts w w' b l (varS ts s).2) w ?_)
 unfold v113v
 intro k0 w0 hk0 hk0' hO0
 have t0 := h.zt.al hO0 hk0 hk0'
 obtain ⟨ad, g1, g2⟩ := t0.r.now
 unfold varS
 dsimp only
 generalize hs1 : (if (tk ts s.i).k = 1 then useV ts s else s) = s1
 refine ⟨fun w' => Zt F ts w w' b l s1 [k0], fun w1 t1 => (skind_c t1.r (k := 1) (by decide)).mono ?_, l, Blk.at1 t0.r.blk 0 rfl, _, Blk.at1 t0.r.blk 1 rfl, ad, g1, _, g2.at1 0 _ rfl, fun hc w12 hO12 => ?_, fun hc w14 hO14 => ?_⟩
 · rintro _ w2 ⟨rfl, h2⟩
   have t2 := t1.nx h2
   refine ⟨_, _, _, _, rfl, t1.sc h2 (by simp), fun k1 w3 hk1 hk1' hO3 => ?_⟩
   have t3 := t2.al hO3 hk1 hk1'
   obtain ⟨q, w4, e1, hO4, hm⟩ := sms_c t3.r [61]
   have t4 := t3.q hO4
   refine ⟨q, w4, e1, t3.sq hO4 (by simp), hm.mono ?_⟩
   rintro _ w5 ⟨rfl, h5⟩
   have t5 := t4.nx h5
   refine ⟨rfl, t4.sc h5 (by simp), ?_⟩
   obtain ⟨q, w6, e1, hO6, hm⟩ := stk_c t5.r [[45]] (n := 1) (parts := #[(0, .string (T [45]))]) rfl rfl (by decide) (by decide)
   have t6 := t5.q hO6
   refine ⟨q, w6, e1, t5.sq hO6 (by simp), hm.mono ?_⟩
   rintro _ w7 ⟨rfl, h7⟩
   have t7 := t6.nx h7
   generalize hgg : whichS ts (mustS ts (kindS ts s1 1).2 [61]) [[45]] = gg at *
   have hgl : gg <= 1 := by rw [<- hgg]; exact which_le _
   refine ⟨_, rfl, t6.sc h7 (by simp), (skind_c t7.r (k := 3) (by decide)).mono ?_⟩
   rintro _ w8 ⟨rfl, h8⟩
   have t8 := t7.nx h8
   refine ⟨_, _, _, _, rfl, t7.sc h8 (by simp), ?_⟩
   obtain ⟨q, w9, e1, hO9, hm⟩ := sms_c t8.r [59]
   have t9 := t8.q hO9
   refine ⟨q, w9, e1, t8.sq hO9 (by simp), hm.mono ?_⟩
   rintro _ w10 ⟨rfl, h10⟩
   refine ⟨rfl, t9.sc h10 (by simp), fun w11 hO11 => ⟨?_, ((t9.nx h10).f hO11 (by simp)).dn⟩⟩
   have hn : ∀ u : Sx, 0 <= (kindS ts u 3).1.n /\ (kindS ts u 3).1.n <= 9223372036854775807 := fun u => by
    unfold kindS
    split
    · exact ⟨Int.le_refl 0, (by decide : (0 : Int) <= 9223372036854775807)⟩
    · unfold tk
      cases hx : ts[u.i]? with
      | none => exact ⟨Int.le_refl 0, (by decide : (0 : Int) <= 9223372036854775807)⟩
      | some t => exact (hg t (List.mem_of_getElem? hx)).2.2
   obtain ⟨n0, n1⟩ := hn (if gg = 0 then mustS ts (kindS ts s1 1).2 [61] else nextS (mustS ts (kindS ts s1 1).2 [61]))
   generalize (kindS ts (if gg = 0 then mustS ts (kindS ts s1 1).2 [61] else nextS (mustS ts (kindS ts s1 1).2 [61])) 3).1.n = x at *
   have e : IntKind.wrap .i64 ((IntKind.wrap .i64 (1 - (IntKind.wrap .i64 (2 * (gg : Int))))) * x) = if gg = 0 then x else IntKind.wrap .i64 (-x) := by
    rcases (by omega : gg = 0 ∨ gg = 1) with rfl | rfl
    · rw [if_pos rfl]
      show IntKind.wrap .i64 (1 * x) = x
      rw [Int.one_mul, wr' (by omega) (by omega)]
    · rw [if_neg (by decide)]
      show IntKind.wrap .i64 (-1 * x) = _
      rw [Int.neg_one_mul]
   rw [e]
 · refine (useV_c (t0.q hO12).r).mono ?_
   rintro _ w13 ⟨rfl, h13⟩
   refine ⟨rfl, (t0.q hO12).sc h13 (by simp), ?_⟩
   rw [<- hs1, if_pos (by simpa using hc)]
   exact (t0.q hO12).nx h13
 · rw [<- hs1, if_neg (by simpa using hc)]
   exact t0.q hO14
end
theorem ch0_r (w : World) (F : Nat -> Prop) : ChR true 15 w F ch0 Sl.nil (ndv 0 [] [] [] Sl.nil Sl.nil Sl.nil Sl.nil 0) := ⟨SlG.nil _ _ _ _ _ _, nd0_r (by decide) _ _⟩
theorem ChR.stay {d : Nat} {w w' : World} {B : Nat} {c : Ch} {vs : Sl} {cs : List Value} (h : ChR true d w (Fr B) c vs cs) (hs : Stay B w w') : ChR true d w' (Fr B) c vs cs := ⟨h.vars.stay rVr_ok (by decide) hs, (rNd_ok true d).stay h.root hs⟩
theorem ChR.low {d : Nat} {w : World} {A B : Nat} {c : Ch} {vs : Sl} {cs : List Value} (h : ChR true d w (Fr B) c vs cs) (hA : A <= B) : ChR true d w (Fr A) c vs cs := ⟨h.vars.low rVr_ok hA, (rNd_ok true d).low h.root hA⟩
theorem var_mu {ts : List Tk} (hE : EndL ts) {s : Sx} {ss : List (List UInt8)} (hi : s.i < ts.length) (hw : whichS ts s ss ≠ 0) : mu ts (varS ts (nextS s)).2 < mu ts s :=
 next_mu hE (which_ne hw).1 hi (which_ne hw).2 (var_on hE (nextS s)).toOn0
theorem sparse_c {w : World} (l : List UInt8) (hE : Er w) : Calls Tryz.prog 13 #[.string (T l)] w fun e w' =>
  ∃ (vs : Sl) (cs : List Value), e = .returned (.tuple #[.agg (vs.v :: cs).toArray, .agg #[.int .i64 (parseC l).2.1, .int .i64 (parseC l).2.2]]) /\ ChR true 15 w' (Fr w.heap.size) (parseC l).1 vs cs /\ Only [] w w' := by
 refine (v93w (T l) (fun v w' => ∃ (vs : Sl) (cs : List Value), v = (.tuple #[.agg (vs.v :: cs).toArray, .agg #[.int .i64 (parseC l).2.1, .int .i64 (parseC l).2.2]]) /\ ChR true 15 w' (Fr w.heap.size) (parseC l).1 vs cs /\ Only [] w w') w ?_).mono (by
  rintro e w' ⟨v, rfl, vs, cs, rfl, h⟩; exact ⟨vs, cs, rfl, h⟩)
 unfold v93v
 generalize hP : parseC l = P
 unfold parseC at hP
 intro k0 k1 w0 hk0 hk0' hk1 hk1' hO0
 have z0 := hO0.size
 refine (tokens_c l (hE.only hO0)).mono ?_
 rintro _ w1 ⟨rs, rfl, hT, hO1⟩
 have z1 := hO1.size
 have hO01 := hO0.tr0 hO1
 have tOk := tokensM_ok (l := l)
 have fin0 : ∀ {w2 w3 : World}, Only [] w1 w2 -> Only [k1, k0] w2 w3 -> Only [] w w3 := fun hO2 hO3 => ((hO01.tr0 hO2).trans hO3 fun x hx => .inr (by simp only [List.mem_cons, List.not_mem_nil, or_false] at hx; omega))
 refine ⟨rs, _, _, rfl, hO1.same (by simp; omega), fun hc k2 w2 hk2 hk2' hO2 n1 n2 n3 => ⟨fun k => k = k2, rfl, fun e => n2 e, fun e => n3 e, fun w3 hO3 => ?_⟩, fun hc k3 k4 k5 w4 hk3 hk3' hk4 hk4' hk5 hk5' hO4 => ?_⟩
 · have hc : (tokensM l).2.1 ≠ 0 := by simpa using hc
   rw [if_pos hc] at hP
   subst hP
   exact ⟨Sl.nil, _, rfl, ch0_r _ _, fin0 hO2 hO3⟩
 have hc : (tokensM l).2.1 = 0 := by simpa using hc
 obtain ⟨hEn, hgd, hlen0, hlen⟩ := tOk hc
 rw [if_neg (by simpa using hc)] at hP
 have htok := ((hT.sl.inHeap rTk_ok (by decide)).mono rTk_ok (G := fun k => w0.heap.size <= k /\ k < w1.heap.size) fun k hk => ⟨hk.1.1, hk.2⟩)
 generalize (tokensM l).1 = ts at *
 clear tOk hT
 have z4 := hO4.size
 obtain ⟨q, w5, e1, hq, hO5⟩ := buildS w4 [wChart] (n := 1) (parts := #[(0, .string (T wChart))]) rfl rfl (by decide) (by decide)
 have z5 := hO5.size
 refine ⟨q, w5, e1, hO5.same (by simp; omega), fun hB5 n04 n14 n34 n54 => ?_⟩
 have r5 : Sr (fun k => w0.heap.size <= k /\ k < w1.heap.size) ts w5 k4 rs sx0 := ⟨hB5, SliceF.only rTk_ok (by decide) htok (hO4.tr0 hO5) (by simp), fun k hk => by have := hk.2; omega, hEn, hlen0, by omega⟩
 have hF1 : ∀ k, (fun k => w0.heap.size <= k /\ k < w1.heap.size) k -> k < w1.heap.size := fun k hk => hk.2
 generalize (fun k => w0.heap.size <= k /\ k < w1.heap.size) = F at *
 have w5w : Only [] w w5 := (hO01.tr0 hO4).tr0 hO5
 have sm : ∀ {u u' : World} {x : Sx}, w5.heap.size <= u.heap.size -> Dn F ts u u' k4 rs x -> Same [k0, k1, k3, k5] u u' := fun hz d => d.o.same (by
  intro x hx; simp only [List.mem_cons, List.not_mem_nil, or_false] at hx ⊢; omega)
 have sq : ∀ {u u' : World}, w5.heap.size <= u.heap.size -> Only [] u u' -> Same [k0, k1, k3, k4, k5] u u' := fun hz o => o.same fun x hx => ⟨by
  simp only [List.mem_cons, List.not_mem_nil, or_false] at hx; omega, by simp⟩
 have oD : ∀ {u u' : World} {x : Sx}, Only [] w u -> Dn F ts u u' k4 rs x -> Only [] w u' := fun o d => o.trans d.o fun x hx => .inr (by simp only [List.mem_singleton] at hx; omega)
 have o5 : ∀ {u u' : World}, Only [] w u -> Only [k5] u u' -> Only [] w u' := fun o d => o.trans d fun x hx => .inr (by simp only [List.mem_singleton] at hx; omega)
 have r55 : ∀ {u u' : World} {x : Sx}, Sr F ts u k4 rs x -> Only [k5] u u' -> Sr F ts u' k4 rs x := fun r o => r.far1 o ⟨n54, fun hF => by have := hF1 _ hF; omega⟩
 have hb5 := hB5.lt
 refine (smust_c r5 (flatS hq) fun k hk e => (by have := hk.1; omega)).mono ?_
 rintro _ w6 ⟨rfl, h6⟩
 have z6 := h6.o.size
 refine ⟨rfl, sm (Nat.le_refl _) h6, rs, _, _, _, _, _, _, _, _, h6.r.blk, (snamed_c h6.r 1).mono ?_⟩
 rintro _ w7 ⟨rfl, h7⟩
 have z7 := h7.o.size
 have hC : chartS ts = (⟨(varsS ts (ts.length + 1) [] (mustS ts (namedS ts 1 (mustS ts sx0 wChart)).2 [123])).1, (bodyS ts (nodeS ts 14) (namedS ts 1 (mustS ts sx0 wChart)).1 (varsS ts (ts.length + 1) [] (mustS ts (namedS ts 1 (mustS ts sx0 wChart)).2 [123])).2).1⟩, endS ts (bodyS ts (nodeS ts 14) (namedS ts 1 (mustS ts sx0 wChart)).1 (varsS ts (ts.length + 1) [] (mustS ts (namedS ts 1 (mustS ts sx0 wChart)).2 [123])).2).2) := rfl
 have hnb : (namedS ts 1 (mustS ts sx0 wChart)).1.ini = [] /\ (namedS ts 1 (mustS ts sx0 wChart)).1.dft = [] /\ (namedS ts 1 (mustS ts sx0 wChart)).1.en = [] /\ (namedS ts 1 (mustS ts sx0 wChart)).1.lv = [] /\ (namedS ts 1 (mustS ts sx0 wChart)).1.mv = [] := ⟨rfl, rfl, rfl, rfl, rfl⟩
 have on7 : On ts sx0 (namedS ts 1 (mustS ts sx0 wChart)).2 := (must_on hEn _).trans (named_on hEn _ _)
 generalize namedS ts 1 (mustS ts sx0 wChart) = N at *
 obtain ⟨⟨nk, nnm, nini, ndft, nen, nlv, nmv, na⟩, u1⟩ := N
 dsimp only at *
 obtain ⟨i1, i2, i3, i4, i5⟩ := hnb
 subst i1 i2 i3 i4 i5
 refine ⟨_, _, _, _, Sl.nil, Sl.nil, Sl.nil, Sl.nil, _, rfl, sm z6 h7, rs, _, _, _, _, _, _, _, _, h7.r.blk, fun w8 hO8 hB8 => ?_⟩
 have z8 := hO8.size
 have r8 := r55 h7.r hO8
 have w8w := o5 (oD (oD w5w h6) h7) hO8
 obtain ⟨q, w9, e1, hO9, hm⟩ := sms_c r8 [123]
 have z9 := hO9.size
 refine ⟨q, w9, e1, sq (by omega) hO9, hm.mono ?_⟩
 rintro _ w10 ⟨rfl, h10⟩
 have z10 := h10.o.size
 have w10w := oD (w8w.tr0 hO9) h10
 have on10 : On ts sx0 (mustS ts u1 [123]) := on7.trans (must_on hEn _)
 clear hm
 generalize mustS ts u1 [123] = u2 at *
 generalize hV : varsS ts (ts.length + 1) [] u2 = V at *
 generalize hB : w10.heap.size = B at *
 refine ⟨rfl, sm (by omega) h10, rs, _, _, _, _, _, _, _, _, h10.r.blk, fun nv l10 i28 s3 s4 s5 l11 l12 l13 l14 i29 l15 i30 i31 i32 i33 i34 i35 i36 i37 w' => ∃ (u : Sx) (acc : List Vr), i28 = nk /\ s3 = T nnm /\ s4 = T [] /\ s5 = T [] /\ l11 = Sl.nil /\ l12 = Sl.nil /\ l13 = Sl.nil /\ l14 = Sl.nil /\ i29 = na /\ Sr F ts w' k4 rs u /\ Own rVr 3 75 B w' (Fr B) l10 acc /\ varsS ts nv acc u = V /\ mu ts u < nv /\ acc.length + mu ts u <= ts.length /\ Only [] w w' /\ B <= w'.heap.size /\ u.d = 12,
  ts.length + 1, ⟨u2, [], rfl, rfl, rfl, rfl, rfl, rfl, rfl, rfl, rfl, h10.r, Own.nil _ _ _ _ _ _, hV, Nat.lt_succ_of_le (mu_le _ _), by rw [List.length_nil, Nat.zero_add]; exact mu_le _ _, w10w, Nat.le_of_eq hB.symm, on10.d⟩, ?_⟩
 clear hV
 rintro nv l10 nk2 _ _ _ _ _ _ _ na2 l15 i30 i31 i32 i33 i34 i35 i36 i37 w11 ⟨u, acc, rfl, rfl, rfl, rfl, rfl, rfl, rfl, rfl, rfl, r11, own11, hR, hf1, hm1, w11w, zB, hud⟩
 obtain ⟨m, rfl⟩ : ∃ m, nv = m + 1 := ⟨nv - 1, by omega⟩
 rw [varsS] at hR
 obtain ⟨q, w12, e1, hO12, hm⟩ := stk_c r11 [wVar] (n := 1) (parts := #[(0, .string (T wVar))]) rfl rfl (by decide) (by decide)
 have z12 := hO12.size
 refine ⟨q, w12, e1, sq (by omega) hO12, hm.mono ?_⟩
 rintro _ w13 ⟨rfl, h13⟩
 have z13 := h13.o.size
 have w13w := oD (w11w.tr0 hO12) h13
 have own13 : Own rVr 3 75 B w13 (Fr B) l10 acc := (own11.stay rVr_ok hO12 fun x hx => (by cases hx)).stay rVr_ok h13.o fun x hx => .inl (by simp only [List.mem_singleton] at hx; omega)
 refine ⟨_, rfl, sm (by omega) h13, rs, _, _, _, _, _, _, _, _, h13.r.blk, fun hc1 w14 hO14 hB14 => ?_, fun hc1 hB13 m05 m15 m35 => ?_⟩
 · have hc1 := pos1 hc1
   rw [if_neg hc1] at hR h13
   have z14 := hO14.size
   have r14 := h13.r.only hO14
   refine ⟨fun k => k = k5, rfl, (svar_c r14 hgd).mono ?_⟩
   rintro _ w15 ⟨rfl, h15⟩
   have z15 := h15.o.size
   have hmu := var_mu hEn r11.lt hc1
   have hon := var_on hEn (nextS u)
   generalize varS ts (nextS u) = X at *
   obtain ⟨x, u'⟩ := X
   dsimp only at *
   have hml := mu_le ts u
   have own15 : Own rVr 3 75 B w15 (Fr B) l10 acc := (own13.stay rVr_ok hO14 fun x hx => (by cases hx)).stay rVr_ok h15.o fun x hx => .inl (by simp only [List.mem_singleton] at hx; omega)
   obtain ⟨y, w16, e2, hO16, la', w17, e3, hown, ⟨gs, hO17, hgs⟩, _⟩ := app_one (P := Tryz.prog) (t := 22) (ty := 22) (e := 75) (i := Tryz.t75) (bytes := 32) (size := 3) (v := .agg #[.string (T x.n), .int .i64 x.v, .int .i64 x.a]) (x := x) (G := fun _ => False) (by kernel_rfl) (by kernel_rfl) rfl rfl rfl rfl (by decide) (by decide) (by decide) rVr_ok own15 (by omega) rfl rfl (fun k hk _ => hk.elim) (by omega)
   have hgs' : ∀ g, g ∈ gs -> B <= g := fun g hg => (hgs g hg).2.1
   have z16 := hO16.size
   have z17 := hO17.size
   refine ⟨_, _, _, rfl, sm (by omega) h15, rs, _, _, _, _, _, _, _, _, h15.r.blk, fun k hk hlt => (by subst hk; exact h15.o.block k hlt (by simp only [List.mem_singleton]; omega)), y, w16, e2, sq (by omega) hO16, Keeps.only hO16, la', w17, e3, hO17.same (fun x hx => ?_), fun k hk hlt => (by subst hk; exact hO17.block k hlt fun hm => (by have := hgs' k hm; omega)), fun w18 hO18 hB18 => ?_⟩
   · simp only [List.mem_cons, List.not_mem_nil, or_false] at hx
     exact ⟨by omega, fun hm => by have := hgs' x hm; omega⟩
   · have z18 := hO18.size
     have r17 : Sr F ts w17 k4 rs u' := (h15.r.only hO16).own hO17 fun x hx => (by have := hgs' x hx; omega)
     refine ⟨m, Nat.lt_succ_self _, u', acc ++ [x], rfl, rfl, rfl, rfl, rfl, rfl, rfl, rfl, rfl, r55 r17 hO18, ?_, hR, by omega, by rw [List.length_append, List.length_singleton]; omega, o5 (((oD (w13w.tr0 hO14) h15).tr0 hO16).trans hO17 fun x hx => .inr (by have := hgs' x hx; have := w13w.size; omega)) hO18, by omega, hon.d.trans hud⟩
     refine (hown.mono rVr_ok fun k hk => ?_).stay rVr_ok hO18 fun x hx => .inl (by simp only [List.mem_singleton] at hx; omega)
     rcases hk with hk | hk
     · exact hk
     · show B <= k; omega
 · have hc1 := pos0 hc1
   rw [if_pos hc1] at hR h13
   subst hR
   dsimp only at hC
   have r13 := h13.r
   refine (sbody_c (f := 14) r13 (pre := [l10.v]) (n := ⟨nk2, nnm, [], [], [], [], [], na2⟩) rfl rfl rfl hB13 ⟨n54, fun hF => (by have := hF1 _ hF; omega)⟩ (by rw [hud]; exact ⟨by decide, by decide⟩) (fun _ => by
    rw [hud]
    exact ⟨by decide, snode_c 14 11 (by decide) (by decide) (by decide)⟩)).mono ?_
   generalize bodyS ts (nodeS ts 14) ⟨nk2, nnm, [], [], [], [], [], na2⟩ u = D at *
   obtain ⟨root, s1⟩ := D
   dsimp only at hC
   rw [hC] at hP
   dsimp only at hP
   rintro _ w19 ⟨rfl, cs, hB19, hx, hO19, r19⟩
   dsimp only at *
   have z19 := hO19.size
   have w19w : Only [] w w19 := w13w.trans hO19 fun x hx => .inr (by simp only [List.mem_cons, List.not_mem_nil, or_false] at hx; omega)
   have st19 : Stay B w13 w19 := Stay.of hO19 fun x hx => .inl (by simp only [List.mem_cons, List.not_mem_nil, or_false] at hx; omega)
   have c19 : ChR true 15 w19 (Fr w5.heap.size) ⟨acc, root⟩ l10 cs := ⟨((own13.sl rVr_ok fun k hk => hk).stay rVr_ok (by decide) st19).low rVr_ok (by omega), (rNd_ok true 15).low hx (by omega)⟩
   have hx' := hx
   obtain ⟨xe, xl, xm, xk, rfl, _⟩ := hx'
   have sm3 : ∀ {u u' : World} {bs : List Nat}, w5.heap.size <= u.heap.size -> Only bs u u' -> (∀ x, x ∈ bs -> x = k4 ∨ x = k5) -> Same [k0, k1, k3] u u' := fun hz o hb => o.same fun x hx => ⟨by simp only [List.mem_cons, List.not_mem_nil, or_false] at hx; omega, fun hm => by have := hb x hm; simp only [List.mem_cons, List.not_mem_nil, or_false] at hx; omega⟩
   refine ⟨rfl, sm3 (by omega) hO19 (by simp), rs, _, _, _, _, _, _, _, _, r19.blk, l10, _, _, _, _, xe, xl, xm, xk, _, hB19, ?_⟩
   have st : ∀ {u u' : World} {x : Sx}, Sr F ts u k4 rs x -> Blk u k5 29 (l10.v :: ndv root.b.k root.b.nm root.b.ini root.b.dft xe xl xm xk root.b.a) -> Only [] w u -> ChR true 15 u (Fr w5.heap.size) ⟨acc, root⟩ l10 (ndv root.b.k root.b.nm root.b.ini root.b.dft xe xl xm xk root.b.a) -> ∀ {y : Sx}, Dn F ts u u' k4 rs y -> Sr F ts u' k4 rs y /\ Blk u' k5 29 (l10.v :: ndv root.b.k root.b.nm root.b.ini root.b.dft xe xl xm xk root.b.a) /\ Only [] w u' /\ ChR true 15 u' (Fr w5.heap.size) ⟨acc, root⟩ l10 (ndv root.b.k root.b.nm root.b.ini root.b.dft xe xl xm xk root.b.a) := fun {u u' x} a1 a2 a3 a4 {y} d =>
    ⟨d.r, d.o.blk a2 (by simp only [List.mem_singleton]; omega), oD a3 d, a4.stay (Stay.of d.o fun x hx => .inl (by simp only [List.mem_singleton] at hx; omega))⟩
   refine ⟨fun l27 i67 s10 s11 s12 l28 l29 l30 l31 i68 l32 i69 i70 i71 i72 i73 i74 i75 i76 w20 => w5.heap.size <= w20.heap.size /\ Sr F ts w20 k4 rs (endS ts s1) /\ Blk w20 k5 29 (l10.v :: ndv root.b.k root.b.nm root.b.ini root.b.dft xe xl xm xk root.b.a) /\ Only [] w w20 /\ ChR true 15 w20 (Fr w5.heap.size) ⟨acc, root⟩ l10 (ndv root.b.k root.b.nm root.b.ini root.b.dft xe xl xm xk root.b.a), ?_, ?_⟩
   · rintro l27 i67 s10 s11 s12 l28 l29 l30 l31 i68 l32 i69 i70 i71 i72 i73 i74 i75 i76 w20 ⟨z20, a1, a2, a3, a4⟩
     refine (sfine_c a1).mono ?_
     rintro _ w21 ⟨rfl, hO21⟩
     obtain ⟨b1, b2, b3, b4⟩ := st a1 a2 a3 a4 (a1.dn.q hO21)
     have z21 := hO21.size
     refine ⟨_, rfl, sm3 z20 hO21 (by simp), rs, _, _, _, _, _, _, _, _, b1.blk, l10, _, _, _, _, xe, xl, xm, xk, _, b2, fun hf w22 hO22 _ _ p01 p03 p04 p05 p13 p14 p15 p34 p35 p45 => ⟨fun k => k = k4, rfl, fun e => p04 e, fun e => p14 e, fun w23 hO23 _ _ => ?_⟩, fun hf w24 hO24 _ _ => ?_⟩
     · have hf : (endS ts s1).fc ≠ 0 := by simpa using hf
       rw [if_pos hf] at hP
       subst hP
       exact ⟨Sl.nil, _, rfl, ch0_r _ _, (b3.tr0 hO22).trans hO23 fun x hx => .inr (by simp only [List.mem_cons, List.not_mem_nil, or_false] at hx; omega)⟩
     · have hf : ¬ (endS ts s1).fc ≠ 0 := by simpa using hf
       rw [if_neg hf] at hP
       subst hP
       refine ⟨l10, _, rfl, (b4.stay (Stay.of hO24 fun x hx => .inl (by simp only [List.mem_cons, List.not_mem_nil, or_false] at hx; omega))).low w5w.size, b3.trans hO24 fun x hx => .inr (by simp only [List.mem_cons, List.not_mem_nil, or_false] at hx; omega)⟩
   · refine ⟨fun b1 l39 i87 s16 s17 s18 l40 l41 l42 l43 i88 l44 i89 i90 i91 i92 i93 i94 i95 i96 w25 => b1 = decide (s1.fc = 0 /\ (tk ts s1.i).k ≠ 5) /\ w5.heap.size <= w25.heap.size /\ Sr F ts w25 k4 rs s1 /\ Blk w25 k5 29 (l10.v :: ndv root.b.k root.b.nm root.b.ini root.b.dft xe xl xm xk root.b.a) /\ Only [] w w25 /\ ChR true 15 w25 (Fr w5.heap.size) ⟨acc, root⟩ l10 (ndv root.b.k root.b.nm root.b.ini root.b.dft xe xl xm xk root.b.a), ?_, fun w27 hO27 _ _ => ?_⟩
     · rintro b1 l39 i87 s16 s17 s18 l40 l41 l42 l43 i88 l44 i89 i90 i91 i92 i93 i94 i95 i96 w25 ⟨rfl, z25, a1, a2, a3, a4⟩
       unfold endS
       refine ⟨fun hb => (swrong_c a1).mono ?_, fun hb => ?_⟩
       · rw [if_pos (of_decide_eq_true hb)]
         rintro _ w26 ⟨rfl, h26⟩
         obtain ⟨b1, b2, b3, b4⟩ := st a1 a2 a3 a4 h26
         have z26 := h26.o.size
         exact ⟨rfl, sm3 z25 h26.o (by simp), rs, _, _, _, _, _, _, _, _, b1.blk, l10, _, _, _, _, xe, xl, xm, xk, _, b2, by omega, b1, b2, b3, b4⟩
       · rw [if_neg (of_decide_eq_false hb)]
         exact ⟨z25, a1, a2, a3, a4⟩
     · have z27 := hO27.size
       obtain ⟨a1, a2, a3, a4⟩ := st r19 hB19 w19w c19 (r19.dn.q hO27)
       refine (sfine_c a1).mono ?_
       rintro _ w28 ⟨rfl, hO28⟩
       obtain ⟨b1, b2, b3, b4⟩ := st a1 a2 a3 a4 (a1.dn.q hO28)
       have z28 := hO28.size
       obtain ⟨ad, g1, g2⟩ := b1.now
       refine ⟨_, rfl, sm3 (by omega) hO28 (by simp), rs, _, _, _, _, _, _, _, _, b1.blk, l10, _, _, _, _, xe, xl, xm, xk, _, b2, fun hb => ⟨ad, g1, _, g2.at1 0 _ rfl, ?_, by omega, b1, b2, b3, b4⟩, fun hb => ⟨?_, by omega, b1, b2, b3, b4⟩⟩
       · have hb : s1.fc = 0 := by simpa using hb
         rw [Bool.eq_iff_iff]
         simp [hb]
       · have hb : ¬ s1.fc = 0 := by simpa using hb
         simp [hb]
def Bu (w : World) (b k : Nat) : Prop := ∃ n c, w.cell? ⟨b, 1, none⟩ = some (.slice (some ⟨k, 0, none⟩) n c)
structure Mw (f : Bool) (b : Nat) (w w' : World) : Prop where
 o : OnlyP (fun k => k = b ∨ (f = false /\ Bu w b k)) w w'
 u : ∀ k, Bu w' b k -> Bu w b k ∨ (f = false /\ w.heap.size <= k)
abbrev St := Bool × Int
structure Qz (w0 : World) (b : Nat) (w : World) (l : List UInt8) (st : St) : Prop where
 o : Only [] w0 w
 lo : w0.heap.size <= b
 ex : ∃ (q : Option Addr) (sl : Sl), (q = none ∨ q = some ⟨b, 0, none⟩) /\ Blk w b 68 [.pointer q, sl.v, .bool st.1, .int .i64 st.2] /\ Bf w (b + 1) sl l
 i : st.1 = false -> 0 <= st.2 /\ st.2 <= 400
 big : l.length <= 274877906944
structure Up (st : St) (c : Bool) (n : Nat) (st' : St) : Prop where
 w : st'.1 = ((st.1 || !c) || decide (400 < st.2 + n))
 a : st'.1 = false -> st'.2 = st.2 + n
theorem or3 {a b c : Bool} (h : false = ((a || !b) || c)) : a = false /\ b = true /\ c = false := by
 revert h
 cases a <;> cases b <;> cases c <;> decide
theorem Up.ok {st st' : St} {c : Bool} {n : Nat} (h : Up st c n st') (e : st'.1 = false) : st.1 = false /\ c = true /\ st'.2 = st.2 + n /\ ¬ 400 < st.2 + (n : Int) := by
 obtain ⟨a, b, d⟩ := or3 (e.symm.trans h.w)
 exact ⟨a, b, h.a e, of_decide_eq_false d⟩
theorem Up.tr {st st' st'' : St} {c c' : Bool} {n n' : Nat} (h : Up st c n st') (k : Up st' c' n' st'') : Up st (c && c') (n + n') st'' := by
 cases e : st''.1 with
 | false =>
  obtain ⟨k1, k2, k3, k4⟩ := k.ok e
  obtain ⟨h1, h2, h3, h4⟩ := h.ok k1
  have h5 : ¬ 400 < st.2 + ((n + n' : Nat) : Int) := by omega
  refine ⟨?_, fun _ => by omega⟩
  rw [e, h1, h2, k2, decide_eq_false h5]
  rfl
 | true =>
  refine ⟨?_, fun e2 => by rw [e] at e2; cases e2⟩
  rw [e]
  refine Eq.symm (Decidable.byContradiction fun hn => ?_)
  obtain ⟨a1, a2, a3⟩ := or3 (Bool.eq_false_iff.2 hn).symm
  rw [Bool.and_eq_true] at a2
  have a3 := of_decide_eq_false a3
  have h5 : ¬ 400 < st.2 + (n : Int) := by omega
  have e1 : st'.1 = false := by rw [h.w, a1, a2.1, decide_eq_false h5]; rfl
  have e2 := h.a e1
  have h6 : ¬ 400 < st'.2 + (n' : Int) := by omega
  have := k.w
  rw [e, e1, a2.2, decide_eq_false h6] at this
  cases this
theorem Up.cg {st st' : St} {c c' : Bool} {n n' : Nat} (h : Up st c n st') (e : c = c') (en : n = n') : Up st c' n' st' := by subst e en; exact h
theorem Up.le {st st' : St} {c : Bool} {n : Nat} (h : Up st c n st') (h0 : st.1 = false -> 0 <= st.2) (e : st'.1 = false) : 0 <= st'.2 /\ st'.2 <= 400 := by
 obtain ⟨a, b, d, h2⟩ := h.ok e
 have := h0 a
 omega
section
variable {f g : Bool} {w0 ws w w' w1 w'' : World} {b k : Nat} {l l' : List UInt8} {st st' : St} {ks ks' : List Nat}
theorem Mw.refl (f : Bool) (b : Nat) (w : World) : Mw f b w w := ⟨OnlyP.refl _ _, fun _ h => .inl h⟩
theorem Mw.trans (h : Mw f b w w') (k : Mw f b w' w'') : Mw f b w w'' := by
 have z := h.o.size
 refine ⟨h.o.trans k.o fun x hx => ?_, fun x hx => ?_⟩
 · rcases hx with hx | ⟨ef, hx⟩
   · exact .inl (.inl hx)
   · rcases h.u x hx with e | ⟨_, e⟩
     · exact .inl (.inr ⟨ef, e⟩)
     · exact .inr e
 · rcases k.u x hx with e | ⟨ef, e⟩
   · exact h.u x e
   · exact .inr ⟨ef, by omega⟩
theorem Mw.up (h : Mw f b w w') : Mw false b w w' := ⟨h.o.mono fun k _ hk => hk.elim .inl fun e => .inr ⟨rfl, e.2⟩, fun k hk => (h.u k hk).elim .inl fun e => .inr ⟨rfl, e.2⟩⟩
theorem Mw.only1 (h : Mw true b w w') : Only [b] w w' := h.o.only' fun k hk => hk.elim (fun e => .inl (by rw [e]; simp)) fun e => (by cases e.1)
theorem bu_keep (h : w'.heap[b]? = w.heap[b]?) {k : Nat} (hb : Bu w' b k) : Bu w b k := by
 obtain ⟨n, c, hc⟩ := hb
 refine ⟨n, c, ?_⟩
 unfold World.cell? at hc ⊢
 rw [h] at hc
 exact hc
theorem Qz.lb (h : Qz w0 b w l st) : b < w.heap.size := by
 obtain ⟨q, sl, _, hB, _⟩ := h.ex
 exact hB.lt
theorem Qz.arg (h : Qz w0 b w l st) (h' : Qz w0 b w' l' st') {k : Nat} (hk : k < w0.heap.size) : w'.heap[k]? = w.heap[k]? := (h'.o.block k hk (by simp)).trans (h.o.block k hk (by simp)).symm
theorem Mw.only (hb : b < w.heap.size) (h : Only [] w w') : Mw f b w w' := ⟨h.p0, fun k hk => .inl (bu_keep (h.block b hb (by simp)) hk)⟩
theorem bu_sl {q v2 v3 : Value} {t : TypeId} {sl : Sl} (hB : Blk w b t [q, sl.v, v2, v3]) {k : Nat} (h : Bu w b k) : sl.a = some ⟨k, 0, none⟩ := by
 obtain ⟨n, c, hc⟩ := h
 have := Blk.at1 hB 1 rfl 0 sl.v rfl
 have e : (Addr.add ⟨b, 0, none⟩ 1).add 0 = ⟨b, 1, none⟩ := by simp [Addr.add]
 rw [e, hc] at this
 have : (Value.slice (some ⟨k, 0, none⟩) n c) = .slice sl.a sl.n sl.c := Option.some.inj this
 injection this with e1 _ _
 exact e1.symm
theorem sl_bu {q v2 v3 : Value} {t : TypeId} {sl : Sl} (hB : Blk w b t [q, sl.v, v2, v3]) {k : Nat} (h : sl.a = some ⟨k, 0, none⟩) : Bu w b k := by
 have := Blk.at1 hB 1 rfl 0 sl.v rfl
 have e : (Addr.add ⟨b, 0, none⟩ 1).add 0 = ⟨b, 1, none⟩ := by simp [Addr.add]
 rw [e] at this
 refine ⟨sl.n, sl.c, ?_⟩
 rw [this, <- h]
theorem Qz.bu (h : Qz w0 b w l st) {k : Nat} (hk : Bu w b k) : b < k /\ k < w.heap.size := by
 obtain ⟨q, sl, _, hB, hb⟩ := h.ex
 have := hb.lt (bu_sl hB hk)
 omega
theorem Qz.only (h : Qz w0 b w l st) (hO : Only [] w w') : Qz w0 b w' l st := by
 obtain ⟨q, sl, hq, hB, hb⟩ := h.ex
 exact ⟨h.o.tr0 hO, h.lo, ⟨q, sl, hq, hO.blk hB (by simp), hb.keep fun g _ hl => hO.block g hl (by simp)⟩, h.i, h.big⟩
structure Zq (f : Bool) (w0 ws : World) (b : Nat) (w : World) (l : List UInt8) (st : St) (ks : List Nat) : Prop extends Qz w0 b w l st where
 m : Mw f b ws w
 k : ∀ k, k ∈ ks -> k < w.heap.size /\ k ≠ b /\ ¬ Bu w b k
theorem Qz.z (f : Bool) (h : Qz w0 b w l st) : Zq f w0 w b w l st [] := ⟨h, Mw.refl f b w, fun k hk => (by cases hk)⟩
theorem Zq.q (t : Zq f w0 ws b w l st ks) (hO : Only [] w w') : Zq f w0 ws b w' l st ks := by
 have hb := t.toQz.lb
 refine ⟨t.toQz.only hO, t.m.trans (Mw.only hb hO), fun k hk => ?_⟩
 obtain ⟨h1, h2, h3⟩ := t.k k hk
 exact ⟨Nat.lt_of_lt_of_le h1 hO.size, h2, fun h => h3 (bu_keep (hO.block b hb (by simp)) h)⟩
theorem Zq.al (t : Zq f w0 ws b w l st ks) (hO : Only [] w w') (h1 : w.heap.size <= k) (h2 : k < w'.heap.size) : Zq f w0 ws b w' l st (k :: ks) := by
 have hb := t.toQz.lb
 have t' := t.q hO
 refine ⟨t'.toQz, t'.m, fun x hx => ?_⟩
 rcases List.mem_cons.1 hx with rfl | hx
 · exact ⟨h2, by omega, fun h => by have := (t.toQz.bu (bu_keep (hO.block b hb (by simp)) h)).2; omega⟩
 · exact t'.k x hx
theorem Zq.nx (t : Zq f w0 ws b w l st ks) (p : Qz w0 b w' l' st') (m : Mw f b w w') : Zq f w0 ws b w' l' st' ks := by
 refine ⟨p, t.m.trans m, fun k hk => ?_⟩
 obtain ⟨h1, h2, h3⟩ := t.k k hk
 exact ⟨Nat.lt_of_lt_of_le h1 m.o.size, h2, fun h => (m.u k h).elim h3 fun e => by have := e.2; omega⟩
theorem Zq.sq (t : Zq f w0 ws b w l st ks) (hO : Only [] w w') (hk : ∀ k, k ∈ ks' -> k ∈ ks) : Same ks' w w' := hO.same fun x hx => ⟨(t.k x (hk x hx)).1, by simp⟩
theorem Zq.sm (t : Zq f w0 ws b w l st ks) (m : Mw g b w w') (hk : ∀ k, k ∈ ks' -> k ∈ ks) : Same ks' w w' := m.o.same fun x hx => ⟨(t.k x (hk x hx)).1, fun h => h.elim (t.k x (hk x hx)).2.1 fun e => (t.k x (hk x hx)).2.2 e.2⟩
theorem Zq.sj (t : Zq f w0 ws b w l st ks) (hz : w.heap.size <= w1.heap.size) (h : OnlyP (fun k => w.heap.size <= k) w1 w') (hk : ∀ k, k ∈ ks' -> k ∈ ks) : Same ks' w1 w' := h.same fun x hx => by
 have := (t.k x (hk x hx)).1
 exact ⟨by omega, by omega⟩
theorem Zq.row (t : Zq true w0 ws b w l st ks) (hb : b < ws.heap.size) (hu : ∀ k, Bu ws b k -> k < ws.heap.size) (hO : OnlyP (fun k => ws.heap.size <= k) w w') : Zq true w0 ws b w' l st ks := by
 have hB := t.toQz.lb
 have hlo := t.lo
 have hkb : ∀ k, Bu w b k -> Bu ws b k := fun k hk => (t.m.u k hk).elim id fun e => (by cases e.1)
 have hbk := hO.block b hB (by omega)
 obtain ⟨q, sl, hq, hBl, hbf⟩ := t.ex
 refine ⟨⟨⟨hO.os.trans t.o.os, hO.tape.trans t.o.tape, hO.output.trans t.o.output, Nat.le_trans t.o.size hO.size, fun k hk _ => (hO.block k (Nat.lt_of_lt_of_le hk t.o.size) (by omega)).trans (t.o.block k hk (by simp))⟩, hlo, ⟨q, sl, hq, hbk.trans hBl, hbf.keep fun g hg hl => hO.block g hl fun e => (by have := hu g (hkb g (sl_bu hBl hg)); omega)⟩, t.i, t.big⟩, ⟨t.m.o.trans hO fun k hk => .inr hk, fun k hk => .inl (hkb k (bu_keep hbk hk))⟩, fun k hk => ?_⟩
 obtain ⟨h1, h2, h3⟩ := t.k k hk
 exact ⟨Nat.lt_of_lt_of_le h1 hO.size, h2, fun h => h3 (bu_keep hbk h)⟩
theorem Keeps.of {ks : List Nat} (h : Same ks w w') : Keeps (fun k => k ∈ ks) w w' := fun k hk _ => h k hk
theorem far_only {w2 : World} (h1 : Only [] w w1) (h2 : OnlyP (fun k => w.heap.size <= k) w1 w2) : Only [] w w2 := (h1.trP h2).only fun _ h => h
end
theorem buildW (w : World) (ws : List (List UInt8)) {n : Nat} {parts : Array (Nat × Value)} (hp : parts = (((ws.map fun x => Value.string (T x)).zipIdx 0).map fun x => (x.2, x.1)).toArray) (hn : ws.length = n) (h0 : 0 < n) (hsm : n * 1 <= 16777216) :
  ∃ (q : Sl) (w1 : World) (g : Nat) (cs : List Value), (Instr.buildSlice 57 n parts).run Tryz.prog w = .ok q.v w1 /\ Only [] w w1 /\ w.heap.size <= g /\ g < w1.heap.size /\ Blk w1 g 9 cs /\
   ∀ (i : Nat) x, ws[i]? = some x -> SlAt q (i : Int) 1 ⟨g, i, none⟩ /\ ∀ w', Blk w' g 9 cs -> Cells w' ⟨g, i, none⟩ [.string (T x)] := by
 obtain ⟨q, w1, k1, k2, k3⟩ := buildS w ws hp hn h0 hsm
 rcases k2 with ⟨_, e⟩ | ⟨g, css, tail, a1, a2, a4, a5, a6, a7, a9, a8⟩
 · subst e
   simp at hn
   omega
 · have hfl := els_tx a8
   refine ⟨q, w1, g, _, k1, k3, a2, a4.lt, a4, fun i x hx => ⟨⟨⟨g, 0, none⟩, a1, Int.natCast_nonneg i, ?_, ?_⟩, fun w' hB => Blk.at0 hB i ?_⟩⟩
   · have := (List.getElem?_eq_some_iff.1 hx).1
     omega
   · rw [addr_lit, Int.toNat_natCast, Nat.mul_one, Nat.zero_add]
   · have : (ws.map fun x => Value.string (T x))[i]? = some (.string (T x)) := by rw [List.getElem?_map, hx]; rfl
     rw [hfl, List.getElem?_append_left (List.getElem?_eq_some_iff.1 this).1, this]
section
variable {w0 w : World} {b : Nat} {l : List UInt8} {st : St}
theorem pp_add (b j : Nat) : (Addr.add ⟨b, 0, none⟩ j : Addr) = ⟨b, j, none⟩ := by rw [addr_lit, Nat.zero_add]
theorem Qz.set (h : Qz w0 b w l st) : ∃ (q : Option Addr) (sl : Sl), Blk w b 68 [.pointer q, sl.v, .bool st.1, .int .i64 st.2] /\
  ∀ (w' : World) (st' : St), Only [b] w w' -> Blk w' b 68 [.pointer q, sl.v, .bool st'.1, .int .i64 st'.2] -> (st'.1 = false -> 0 <= st'.2 /\ st'.2 <= 400) -> Qz w0 b w' l st' /\ Mw true b w w' := by
 obtain ⟨q, sl, hq, hB, hb⟩ := h.ex
 refine ⟨q, sl, hB, fun w1 st1 hO1 hB1 hi => ⟨⟨⟨hO1.os.trans h.o.os, hO1.tape.trans h.o.tape, hO1.output.trans h.o.output, Nat.le_trans h.o.size hO1.size, fun k hk _ => (hO1.block k (Nat.lt_of_lt_of_le hk h.o.size) (by have := h.lo; simp; omega)).trans (h.o.block k hk (by simp))⟩, h.lo, ⟨q, sl, hq, hB1, hb.keep fun g hg hl => hO1.block g hl (by have := (hb.lt hg).1; simp; omega)⟩, hi, h.big⟩, ?_⟩⟩
 exact ⟨hO1.p fun x hx => .inl (.inl (by simpa using hx)), fun k hk => .inl (sl_bu hB (bu_sl hB1 hk))⟩
theorem Qz.up0 (h : Qz w0 b w l st) : Up st true 0 st := by
 refine ⟨?_, fun _ => by simp⟩
 cases e : st.1
 · have := (h.i e).2
   have h2 : ¬ 400 < st.2 + ((0 : Nat) : Int) := by omega
   rw [decide_eq_false h2]
   rfl
 · rfl
theorem must0_c {q : Option Addr} {sl : Sl} {wr : Bool} {ac : Int} (hB : Blk w b 68 [.pointer q, sl.v, .bool wr, .int .i64 ac]) (ok : Bool) : Calls Tryz.prog 30 #[rp b, .bool ok] w fun e w' =>
  e = .returned (.tuple #[]) /\ Only [b] w w' /\ Blk w' b 68 [.pointer q, sl.v, .bool (wr || !ok), .int .i64 ac] := by
 refine ret (v54w ⟨b, 0, none⟩ ok (fun v w' => v = .tuple #[] /\ Only [b] w w' /\ Blk w' b 68 [.pointer q, sl.v, .bool (wr || !ok), .int .i64 ac]) w ?_)
 unfold v54v
 exact ⟨wr, Blk.at1 hB 2 rfl, b, 2, _, _, pp_add b 2, hB, by simp, fun w1 hO1 hB1 => ⟨rfl, hO1, hB1⟩⟩
theorem pmust_c (h : Qz w0 b w l st) (ok : Bool) : Calls Tryz.prog 30 #[rp b, .bool ok] w fun e w' => e = .returned (.tuple #[]) /\ ∃ st', Up st ok 0 st' /\ Qz w0 b w' l st' /\ Mw true b w w' := by
 obtain ⟨q, sl, hB, hset⟩ := h.set
 refine (must0_c hB ok).mono ?_
 rintro _ w1 ⟨rfl, hO1, hB1⟩
 have hu : Up st ok 0 (st.1 || !ok, st.2) := by
  refine ⟨?_, fun e => by simp⟩
  cases e : st.1
  · have := (h.i e).2
    have h2 : ¬ 400 < st.2 + ((0 : Nat) : Int) := by omega
    rw [decide_eq_false h2, Bool.or_false]
  · simp
 exact ⟨rfl, _, hu, hset w1 _ hO1 hB1 fun e => hu.le (fun e => (h.i e).1) e⟩
theorem pname_c (h : Qz w0 b w l st) (s : List UInt8) (hs : s.length < 9223372036854775807) : Calls Tryz.prog 32 #[rp b, .string (T s)] w fun e w' => e = .returned (.string (T s)) /\ ∃ st', Up st (nameM s) 0 st' /\ Qz w0 b w' l st' /\ Mw true b w w' := by
 refine ret (v55w ⟨b, 0, none⟩ (T s) (fun v w' => v = .string (T s) /\ ∃ st', Up st (nameM s) 0 st' /\ Qz w0 b w' l st' /\ Mw true b w w') w ?_)
 unfold v55v
 refine (name_c s hs).mono ?_
 rintro _ w1 ⟨rfl, hO1⟩
 refine ⟨_, rfl, (pmust_c (h.only hO1) _).mono ?_⟩
 rintro _ w2 ⟨rfl, st', h1, h2, h3⟩
 exact ⟨rfl, rfl, st', h1, h2, (Mw.only h.lb hO1).trans h3⟩
theorem pexpr_c (h : Qz w0 b w l st) {F : Nat -> Prop} {x : Ex} {cs : List Value} (hx : rE false w F x cs) (hn : okN x) (hs : szX x <= 1759218604441) (hE : Er w0) (hT : Tb w0) :
  Calls Tryz.prog 111 #[rp b, .agg cs.toArray] w fun e w' => e = .returned (.string (T (exX x))) /\ ∃ st', Up st (exOk x) 0 st' /\ Qz w0 b w' l st' /\ Mw true b w w' := by
 obtain ⟨xs, rfl⟩ := rE_cells hx
 refine ret (v51w ⟨b, 0, none⟩ x.k x.n (T x.s) x.op xs x.a (fun v w' => v = .string (T (exX x)) /\ ∃ st', Up st (exOk x) 0 st' /\ Qz w0 b w' l st' /\ Mw true b w w') w ?_)
 unfold v51v
 intro k0 w1 hk0 hk0' hO1
 have t1 := (h.z true).al hO1 hk0 hk0'
 refine (etext_c ((rE_ok false).keep hx fun k _ hlt => hO1.block k hlt (by simp)) hn hs (hE.only t1.o) (hT.only t1.o)).mono ?_
 rintro _ w2 ⟨rfl, hO2⟩
 have t2 := t1.q hO2
 refine ⟨_, rfl, t1.sq hO2 (by simp), (pmust_c t2.toQz _).mono ?_⟩
 rintro _ w3 ⟨rfl, st', h1, h2, h3⟩
 rw [show ByteArray.mk #[] = T [] from rfl, T_eq] at h1
 have e : (!decide (exX x = [])) = exOk x := by unfold exOk; rw [decide_not]
 rw [e] at h1
 exact ⟨rfl, t2.sm h3 (by simp), rfl, st', h1, h2, (t2.nx h2 h3).m⟩
theorem pbare_c (h : Qz w0 b w l st) {F : Nat -> Prop} {x : Ex} {cs : List Value} (hx : rE false w F x cs) :
  Calls Tryz.prog 112 #[rp b, .agg cs.toArray] w fun e w' => e = .returned (.tuple #[]) /\ ∃ st', Up st (noneX x) 0 st' /\ Qz w0 b w' l st' /\ Mw true b w w' := by
 have hlen : ∃ xs : Sl, cs = exv x.k x.n x.s x.op xs x.a /\ xs.n = x.subs.length := by
  obtain ⟨d, hx⟩ := hx
  cases d with
  | zero => exact hx.elim
  | succ d =>
   obtain ⟨sl, h1, h2, _⟩ := hx
   exact ⟨sl, h1, h2.len⟩
 obtain ⟨xs, rfl, hl⟩ := hlen
 refine ret (v47w ⟨b, 0, none⟩ x.k x.n (T x.s) x.op xs x.a (fun v w' => v = .tuple #[] /\ ∃ st', Up st (noneX x) 0 st' /\ Qz w0 b w' l st' /\ Mw true b w w') w ?_)
 unfold v47v
 intro k0 w1 hk0 hk0' hO1
 have t1 := (h.z true).al hO1 hk0 hk0'
 refine (pmust_c t1.toQz _).mono ?_
 rintro _ w3 ⟨rfl, st', h1, h2, h3⟩
 rw [show ByteArray.mk #[] = T [] from rfl, T_eq, hl] at h1
 exact ⟨rfl, t1.sm h3 (by simp), rfl, st', h1, h2, (t1.nx h2 h3).m⟩
theorem pwide_c (h : Qz w0 b w l st) : Calls Tryz.prog 35 #[rp b] w fun e w' => e = .returned (.bool (decide (16384 < l.length))) /\ w' = w := by
 refine ret (v57w ⟨b, 0, none⟩ (fun v w' => v = .bool (decide (16384 < l.length)) /\ w' = w) w ?_)
 unfold v57v
 obtain ⟨q, sl, hq, hB, hb⟩ := h.ex
 refine (v85w _ (fun v w' => v = .int .i64 (l.length : Int) /\ w' = w) w ?_).mono ?_
 · unfold v85v
   rw [pp_add]
   exact ⟨sl, Blk.at1 hB 1 rfl, by rw [hb.len], rfl⟩
 · rintro _ w1 ⟨v, rfl, rfl, rfl⟩
   refine ⟨_, rfl, ?_, rfl⟩
   congr 1
   rw [Bool.eq_iff_iff]
   simp
   omega
end
def szA (a : Ac) : Nat := szX a.x + (a.n.length + 1)
def szAs : List Ac -> Nat
 | [] => 0
 | a :: l => szA a + szAs l
theorem szAs_mem {a : Ac} : ∀ {l : List Ac}, a ∈ l -> szA a <= szAs l
 | [], h => by simp at h
 | x :: l, h => by
  rw [szAs]
  rcases List.mem_cons.1 h with rfl | h
  · omega
  · have := szAs_mem h; omega
theorem szAs_len : ∀ (l : List Ac), l.length <= szAs l
 | [] => Nat.zero_le _
 | a :: l => by
  have := szAs_len l
  rw [szAs, List.length_cons]
  unfold szA
  omega
def szT (l : List (List UInt8)) : Nat := (l.map fun s => s.length + 1).sum
def szM (m : Mv) : Nat := (szAs m.acts + szX m.g) + (szT m.tg + (m.ev.length + 1))
theorem exX_len (x : Ex) : (exX x).length <= 16384 := by
 by_cases h : exX x = []
 · rw [h]; exact Nat.zero_le _
 · obtain ⟨h1, h2, h3⟩ := text_ne2 h
   refine Decidable.byContradiction fun hc => ?_
   have e : exX x = pgM (dpX x) x false [] := h2
   rw [<- e] at h3
   unfold readA at h3
   have : tokensM (exX x) = ([], 2, -1) := by rw [tokensM, if_pos (by omega)]
   rw [this, if_pos (by decide)] at h3
   exact absurd h3 (show ¬ (2 : Int) = 0 by decide)
theorem name_ne {s : List UInt8} (h : nameM s = true) : ne s = true := by
 unfold nameM at h
 simp only [Bool.and_eq_true] at h
 have := (of_decide_eq_true h.1.1.1).1
 unfold ne
 rw [decide_eq_false this]
 rfl
theorem ex_ne {x : Ex} (h : exOk x = true) : ne (exX x) = true := by
 unfold ne
 rw [decide_eq_false (of_decide_eq_true h)]
 rfl
theorem join2 {x : List UInt8} (h : ne x = true) (ws : List (List UInt8)) : joinM (x :: ws) = x ++ Lib.joinTail [32] (ws.filter ne) := by
 unfold joinM
 rw [List.filter_cons, h, if_pos rfl, Lib.join_cons]
theorem jt_cons (x : List UInt8) (r : List (List UInt8)) : Lib.joinTail [32] (x :: r) = 32 :: (x ++ Lib.joinTail [32] r) := by
 unfold Lib.joinTail
 rw [List.map_cons, List.flatten_cons]
 rfl
theorem jt_nil : Lib.joinTail [32] [] = [] := rfl
theorem fl_cons {x : List UInt8} (h : ne x = true) (ws : List (List UInt8)) : (x :: ws).filter ne = x :: ws.filter ne := by rw [List.filter_cons, h, if_pos rfl]
theorem fl_nil (ws : List (List UInt8)) : ([] :: ws).filter ne = ws.filter ne := by rw [List.filter_cons, if_neg (by decide)]
def acW (a : Ac) : List (List UInt8) := if a.k = 2 then [wRaise, a.n] else [if a.k = 1 then wSet else wEmit, a.n, [61], exX a.x]
theorem acW_t {a : Ac} (h : acOk a = true) : joinM (acW a) ++ [59] = acT a := by
 unfold acOk at h
 simp only [Bool.and_eq_true] at h
 obtain ⟨⟨h1, h2⟩, h3⟩ := h
 unfold acW acT
 by_cases hk : a.k = 2
 · rw [if_pos hk, if_pos hk, join2 (by decide), fl_cons (name_ne h2), List.filter_nil, jt_cons, jt_nil]
   simp
 · rw [if_neg hk] at h3
   have hw : ne (if a.k = 1 then wSet else wEmit) = true := by split <;> decide
   rw [if_neg hk, if_neg hk, join2 hw, fl_cons (name_ne h2), fl_cons (by decide), fl_cons (ex_ne h3), List.filter_nil, jt_cons, jt_cons, jt_cons, jt_nil]
   simp
theorem acW_len (a : Ac) : (joinM (acW a)).length <= 16398 + a.n.length := by
 refine Nat.le_trans (joinM_len _) ?_
 have := exX_len a.x
 unfold acW
 split
 · simp only [List.map_cons, List.map_nil, List.sum_cons, List.sum_nil]
   show 5 + 1 + (a.n.length + 1 + 0) <= _
   omega
 · simp only [List.map_cons, List.map_nil, List.sum_cons, List.sum_nil]
   have : (if a.k = 1 then wSet else wEmit).length <= 4 := by split <;> decide
   show _ + 1 + (a.n.length + 1 + (1 + 1 + (_ + 1 + 0))) <= _
   omega
section
variable {w0 w : World} {b : Nat} {l : List UInt8} {st : St}
theorem act_c (h : Qz w0 b w l st) {F : Nat -> Prop} {a : Ac} {cs : List Value} (hx : rAc false w F a cs) (hF : ∀ k, F k -> k < w0.heap.size) (hn : acN a) (hs : szA a <= 1759218604441) (hE : Er w0) (hT : Tb w0) :
  Calls Tryz.prog 110 #[rp b, .agg cs.toArray] w fun e w' => ∃ s st', e = .returned (.string (T s)) /\ s.length <= 16400 + a.n.length /\ (acOk a = true -> s = acT a) /\ Up st (acOk a) 0 st' /\ Qz w0 b w' l st' /\ Mw true b w w' := by
 obtain ⟨xc, rfl, hx⟩ := hx
 obtain ⟨xs, rfl⟩ := rE_cells hx
 unfold szA at hs
 refine (v46w ⟨b, 0, none⟩ a.k (T a.n) a.x.k a.x.n (T a.x.s) a.x.op xs a.x.a a.a (fun v w' => ∃ s st', v = .string (T s) /\ s.length <= 16400 + a.n.length /\ (acOk a = true -> s = acT a) /\ Up st (acOk a) 0 st' /\ Qz w0 b w' l st' /\ Mw true b w w') w ?_).mono (by
  rintro e w' ⟨v, rfl, s, st', rfl, h⟩; exact ⟨s, st', rfl, h⟩)
 unfold v46v
 intro k0 w1 hk0 hk0' hO1
 have t1 := (h.z true).al hO1 hk0 hk0'
 obtain ⟨q, w2, g, cs, e1, hO2, hg1, hg2, hB2, hat⟩ := buildW w1 [[], wSet, wRaise, wEmit] (n := 4) (parts := #[.mk 0 (.string (ByteArray.mk #[])), .mk 1 (.string (ByteArray.mk #[115, 101, 116])), .mk 2 (.string (ByteArray.mk #[114, 97, 105, 115, 101])), .mk 3 (.string (ByteArray.mk #[101, 109, 105, 116]))]) rfl rfl (by decide) (by decide)
 have t2 := t1.al hO2 hg1 hg2
 have tail := acW_len a
 refine ⟨q, w2, e1, t1.sq hO2 (by simp), fun hc => ?_, fun hc => ?_⟩
 · refine (pmust_c t2.toQz false).mono ?_
   rintro _ w3 ⟨rfl, st', u1, u2, u3⟩
   have hk : acOk a = false := by
    unfold acOk
    have : ¬ (1 <= a.k /\ a.k <= 3) := by
     simp only [Bool.or_eq_true, decide_eq_true_eq] at hc
     omega
    rw [decide_eq_false this]
    rfl
   exact ⟨rfl, t2.sm u3 (by simp), [], st', rfl, Nat.zero_le _, fun e => (by rw [hk] at e; cases e), by rw [hk]; exact u1, u2, (t2.nx u2 u3).m⟩
 have hkk : 1 <= a.k /\ a.k <= 3 := by
  simp only [Bool.or_eq_false_iff, decide_eq_false_iff_not] at hc
  omega
 have hwd : ∀ x, [[], wSet, wRaise, wEmit][a.k.toNat]? = some x -> SlAt q a.k 1 ⟨g, a.k.toNat, none⟩ /\ ∀ w', Blk w' g 9 cs -> Cells w' ⟨g, a.k.toNat, none⟩ [.string (T x)] := fun x hx => by
  have := hat _ x hx
  rwa [Int.toNat_of_nonneg (by omega)] at this
 refine ⟨fun hc2 => ?_, fun hc2 w8 hO8 => ?_⟩
 · have hk : a.k = 2 := by simpa using hc2
   have hW : acW a = [wRaise, a.n] := by unfold acW; rw [if_pos hk]
   refine (pbare_c t2.toQz ((rE_ok false).keep hx fun k hk _ => h.arg t2.toQz (hF k hk))).mono ?_
   rintro _ w3 ⟨rfl, st3, u1, u2, u3⟩
   have t3 := t2.nx u2 u3
   refine ⟨rfl, t2.sm u3 (by simp), fun w4 hO4 => ⟨fun k => k ∈ [k0, g], by simp, ?_⟩⟩
   have t4 := t3.q hO4
   obtain ⟨y1, y2⟩ := hwd wRaise (by rw [hk]; rfl)
   have hB4 : Blk w4 g 9 cs := (t3.sq (ks' := [g]) hO4 (by simp) g (by simp)).trans ((t2.sm (ks' := [g]) u3 (by simp) g (by simp)).trans hB2)
   refine ⟨_, y1, by simp, _, y2 w4 hB4, (pname_c t4.toQz a.n (by omega)).mono ?_⟩
   rintro _ w5 ⟨rfl, st5, v1, v2, v3⟩
   have t5 := t4.nx v2 v3
   obtain ⟨q6, w6, e6, hO6, _, hj⟩ := joinB w5 [wRaise, a.n] (n := 2) (parts := #[.mk 0 (.string (T wRaise)), .mk 1 (.string (T a.n))]) rfl rfl (by decide) (by decide) (by rw [<- hW]; omega)
   have z6 := hO6.size
   refine ⟨_, rfl, t4.sm v3 (by simp), Keeps.of (t4.sm v3 (by simp)), q6, w6, e6, t5.sq hO6 (by simp), Keeps.of (t5.sq hO6 (by simp)), hj.mono ?_⟩
   rintro _ w7 ⟨rfl, hP7⟩
   have hO7 := far_only hO6 hP7
   have t7 := t5.q hO7
   have hU := u1.tr v1
   have hok : acOk a = (noneX a.x && nameM a.n) := by
    unfold acOk
    rw [if_pos hk, decide_eq_true hkk, Bool.true_and, Bool.and_comm]
   rw [<- hok] at hU
   rw [<- hW]
   refine ⟨_, rfl, t5.sj z6 hP7 (by simp), Keeps.of (t5.sj z6 hP7 (by simp)), by rw [T_size]; omega, joinM (acW a) ++ [59], st5, by rw [show ByteArray.mk #[59] = T [59] from rfl, T_app], by rw [List.length_append, List.length_singleton]; omega, fun hok => acW_t hok, hU, t7.toQz, t7.m⟩
 · have hk : a.k ≠ 2 := by simpa using hc2
   have hW : acW a = [if a.k = 1 then wSet else wEmit, a.n, [61], exX a.x] := by unfold acW; rw [if_neg hk]
   have t8 := t2.q hO8
   obtain ⟨y1, y2⟩ := hwd (if a.k = 1 then wSet else wEmit) (by
    by_cases h1 : a.k = 1
    · rw [if_pos h1, h1]; rfl
    · rw [if_neg h1, show a.k = 3 by omega]; rfl)
   have hB8 : Blk w8 g 9 cs := (t2.sq (ks' := [g]) hO8 (by simp) g (by simp)).trans hB2
   refine ⟨fun k => k ∈ [k0, g], by simp, _, y1, by simp, _, y2 w8 hB8, by simp, (pname_c t8.toQz a.n (by omega)).mono ?_⟩
   rintro _ w9 ⟨rfl, st9, u1, u2, u3⟩
   have t9 := t8.nx u2 u3
   refine ⟨_, rfl, t8.sm u3 (by simp), Keeps.of (t8.sm u3 (by simp)), (pexpr_c t9.toQz ((rE_ok false).keep hx fun k hk _ => h.arg t9.toQz (hF k hk)) hn (by omega) hE hT).mono ?_⟩
   rintro _ w10 ⟨rfl, st10, v1, v2, v3⟩
   have t10 := t9.nx v2 v3
   obtain ⟨q11, w11, e11, hO11, _, hj⟩ := joinB w10 [if a.k = 1 then wSet else wEmit, a.n, [61], exX a.x] (n := 4) (parts := #[.mk 0 (.string (T (if a.k = 1 then wSet else wEmit))), .mk 1 (.string (T a.n)), .mk 2 (.string (T [61])), .mk 3 (.string (T (exX a.x)))]) rfl rfl (by decide) (by decide) (by rw [<- hW]; omega)
   have z11 := hO11.size
   refine ⟨_, rfl, t9.sm v3 (by simp), Keeps.of (t9.sm v3 (by simp)), q11, w11, e11, t10.sq hO11 (by simp), Keeps.of (t10.sq hO11 (by simp)), hj.mono ?_⟩
   rintro _ w12 ⟨rfl, hP12⟩
   have hO12 := far_only hO11 hP12
   have t12 := t10.q hO12
   have hU := u1.tr v1
   have hok : acOk a = (nameM a.n && exOk a.x) := by
    unfold acOk
    rw [if_neg hk, decide_eq_true hkk, Bool.true_and]
   rw [<- hok] at hU
   rw [<- hW]
   refine ⟨_, rfl, t10.sj z11 hP12 (by simp), Keeps.of (t10.sj z11 hP12 (by simp)), by rw [T_size]; omega, joinM (acW a) ++ [59], st10, by rw [show ByteArray.mk #[59] = T [59] from rfl, T_app], by rw [List.length_append, List.length_singleton]; omega, fun hok => acW_t hok, hU, t12.toQz, t12.m⟩
end
theorem Up.bad {st st' : St} {c c' : Bool} {n n' : Nat} (h : Up st c n st') (e : st'.1 = true) (hc : c' = true -> c = true) (hn : n <= n') : Up st c' n' st' := by
 refine ⟨?_, fun e2 => by rw [e] at e2; cases e2⟩
 rw [e]
 refine Eq.symm (Decidable.byContradiction fun hk => ?_)
 obtain ⟨a1, a2, a3⟩ := or3 (Bool.eq_false_iff.2 hk).symm
 have a3 := of_decide_eq_false a3
 have := h.w
 rw [e, a1, hc a2, decide_eq_false (show ¬ 400 < st.2 + (n : Int) by omega)] at this
 cases this
theorem szAs_app : ∀ (l m : List Ac), szAs (l ++ m) = szAs l + szAs m
 | [], m => by rw [List.nil_append]; show _ = 0 + _; omega
 | a :: l, m => by rw [List.cons_append, szAs, szAs, szAs_app l m]; omega
theorem acT_ne (a : Ac) : ne (acT a) = true := by
 have : acT a ≠ [] := by unfold acT; split <;> simp
 unfold ne
 rw [decide_eq_false this]
 rfl
theorem jt_acs : ∀ l : List Ac, Lib.joinTail [32] ((l.map acT).filter ne) = acsT l
 | [] => rfl
 | a :: l => by rw [List.map_cons, fl_cons (acT_ne a), jt_cons, jt_acs l, acsT]
theorem jt_app (x y : List (List UInt8)) : Lib.joinTail [32] (x ++ y) = Lib.joinTail [32] x ++ Lib.joinTail [32] y := by
 unfold Lib.joinTail
 rw [List.map_append, List.flatten_append]
theorem blT_t (l : List Ac) : joinM ([123] :: (l.map acT ++ [[125]])) = blT l := by
 rw [join2 (by decide), List.filter_append, jt_app, jt_acs]
 rfl
theorem app_w {w : World} {B : Nat} {s : Sl} {ws : List (List UInt8)} (h : Own rTx 1 9 B w (fun _ => True) s ws) (x : List UInt8) (hB : B <= w.heap.size) (hm : ws.length <= 1073741824) :
  ∃ y w1, (Instr.buildSlice 57 1 #[.mk 0 (.string (T x))]).run Tryz.prog w = .ok (Sl.v y) w1 /\ Only [] w w1 /\ ∃ s' w2, (Builtin.append_ #[57, 57] 57 #[Sl.v s, Sl.v y]).run Tryz.prog w1 = .ok (Sl.v s') w2 /\
   Own rTx 1 9 B w2 (fun _ => True) s' (ws ++ [x]) /\ ∃ gs, Only gs w1 w2 /\ ∀ g, g ∈ gs -> s.a = some ⟨g, 0, none⟩ /\ B <= g := by
 obtain ⟨y, w1, e1, hO1, s', w2, e2, hown, ⟨gs, hO2, hgs⟩, _⟩ := app_one (P := Tryz.prog) (t := 57) (ty := 57) (e := 9) (i := Tryz.t9) (bytes := 16) (size := 1) (v := .string (T x)) (x := x) (G := fun _ => False) (by kernel_rfl) (by kernel_rfl) rfl rfl rfl rfl (by decide) (by decide) (by decide) rTx_ok h hB rfl rfl (fun k hk _ => hk.elim) (by omega)
 exact ⟨y, w1, e1, hO1, s', w2, e2, hown.mono rTx_ok fun k _ => trivial, gs, hO2, fun g hg => ⟨(hgs g hg).1, (hgs g hg).2.1⟩⟩
theorem _root_.Go.Kt.Own.far {w w' : World} {B b : Nat} {s : Sl} {ws : List (List UInt8)} (h : Own rTx 1 9 B w (fun _ => True) s ws) (hO : Only [b] w w') (hb : b < B) : Own rTx 1 9 B w' (fun _ => True) s ws := by
 rcases h with ⟨rfl, rfl⟩ | ⟨g, css, tail, h1, h2, h4, h5, h6, h7, h9, h8⟩
 · exact .inl ⟨rfl, rfl⟩
 · have e : ∀ {l : List (List UInt8)} {css : List (List Value)}, Els rTx 1 w (fun k => True /\ k ≠ g) l css -> Els rTx 1 w' (fun k => True /\ k ≠ g) l css := fun {l} => by
    induction l with
    | nil => intro css h; cases css with | nil => trivial | cons _ _ => exact h
    | cons x l ih => intro css h; cases css with | nil => exact h | cons c css => exact ⟨h.1, ih h.2⟩
   exact .inr ⟨g, css, tail, h1, h2, hO.blk h4 (by simp; omega), h5, h6, h7, h9, e h8⟩
theorem all_take {α : Type} {p : α -> Bool} {xs : List α} {j : Nat} (h : xs.all p = true) : (xs.take j).all p = true := by
 rw [List.all_eq_true] at h ⊢
 exact fun x hx => h x (List.mem_of_mem_take hx)
theorem sum_snoc (ws : List (List UInt8)) (x : List UInt8) : ((ws ++ [x]).map fun l => l.length + 1).sum = (ws.map fun l => l.length + 1).sum + (x.length + 1) := by
 rw [List.map_append, List.sum_append]
 simp
section
variable {w0 w : World} {b : Nat} {l : List UInt8} {st : St}
theorem block_c (h : Qz w0 b w l st) {F : Nat -> Prop} {s : Sl} {xs : List Ac} (hx : SliceF (rAc false) 9 w F s xs) (hF : ∀ k, F k -> k < w0.heap.size) (hn : ∀ a, a ∈ xs -> acN a) (hs : szAs xs <= 16777216) (hE : Er w0) (hT : Tb w0) :
    Calls Tryz.prog 66 #[rp b, s.v] w fun e w' => ∃ t st', e = .returned (.string (T t)) /\ t.length <= 16405 * szAs xs /\ (st'.1 = false -> t = if xs = [] then [] else blT xs) /\ Up st (xs.all acOk) xs.length st' /\ Qz w0 b w' l st' /\ Mw true b w w' := by
  refine (v48w ⟨b, 0, none⟩ s (fun v w' => ∃ t st', v = .string (T t) /\ t.length <= 16405 * szAs xs /\ (st'.1 = false -> t = if xs = [] then [] else blT xs) /\ Up st (xs.all acOk) xs.length st' /\ Qz w0 b w' l st' /\ Mw true b w w') w ?_).mono (by
    rintro e w' ⟨v, rfl, s, st', rfl, h⟩; exact ⟨s, st', rfl, h⟩)
  unfold v48v
  have hlen := hx.len
  have hlz := szAs_len xs
  refine ⟨fun hc => ?_, fun hc => ?_⟩
  · have hc : s.n = 0 := by have : ((s.n : Int)) = 0 := by simpa using hc
                            omega
    have : xs = [] := List.eq_nil_of_length_eq_zero (by omega)
    subst this
    exact ⟨[], st, rfl, Nat.zero_le _, fun _ => (if_pos rfl).symm, h.up0, h, Mw.refl _ _ _⟩
  have hne : xs ≠ [] := fun e => by
    subst e
    have : s.n = 0 := hlen
    rw [this] at hc
    exact absurd hc (by decide)
  obtain ⟨q, sl, hB, hset⟩ := h.set
  refine ⟨st.2, Blk.at1 hB 3 rfl, b, 3, _, _, pp_add b 3, hB, by simp, fun w1 hO1 hB1 => ⟨_, Blk.at1 hB1 3 rfl, (must0_c (q := q) (sl := sl) (wr := st.1) (ac := IntKind.wrap .i64 (st.2 + (s.n : Int))) hB1 _).mono ?_⟩⟩
  rintro _ w2 ⟨rfl, hO2, hB2⟩
  have hU1 : Up st true xs.length (st.1 || !decide (IntKind.wrap .i64 (st.2 + (s.n : Int)) <= 400), IntKind.wrap .i64 (st.2 + (s.n : Int))) := by
    cases e : st.1
    · have := h.i e
      have ew : IntKind.wrap .i64 (st.2 + (s.n : Int)) = st.2 + xs.length := by rw [hlen]; exact wr' (by omega) (by omega)
      rw [ew]
      refine ⟨?_, fun _ => rfl⟩
      rw [e]
      by_cases h4 : st.2 + (xs.length : Int) <= 400
      · rw [decide_eq_true h4, decide_eq_false (by omega)]; rfl
      · rw [decide_eq_false h4, decide_eq_true (by omega)]; rfl
    · exact ⟨by rw [e]; rfl, fun e2 => by cases e2⟩
  obtain ⟨h2, hm2⟩ := hset w2 _ (hO1.trans hO2 fun x hx => .inl hx) hB2 fun e => hU1.le (fun e => (h.i e).1) e
  generalize (st.1 || !decide (IntKind.wrap .i64 (st.2 + (s.n : Int)) <= 400), IntKind.wrap .i64 (st.2 + (s.n : Int))) = st1 at *
  have b2 := h2.lb
  have hu2 : ∀ k, Bu w2 b k -> k < w2.heap.size := fun k hk => (h2.bu hk).2
  obtain ⟨q3, w3, e3, hO3, own3, _⟩ := joinB w2 [[123]] (n := 1) (parts := #[.mk 0 (.string (T [123]))]) rfl rfl (by decide) (by decide) (by decide)
  have t3 := (h2.z true).q hO3
  refine ⟨rfl, q3, w3, e3, fun l1 w' => ∃ ws st', Own rTx 1 9 w2.heap.size w' (fun _ => True) l1 ws /\ ws.length <= 16777217 /\ (ws.map fun l => l.length + 1).sum <= 2 + 16401 * szAs xs /\ (st'.1 = false -> ws = [123] :: xs.map acT) /\ Up st1 (xs.all acOk) 0 st' /\ Zq true w0 w2 b w' l st' [], ?_, ?_⟩
  · rintro l1 w4 ⟨ws, st4, own4, hwl, hws, htx, hU4, t4⟩
    have z4 := t4.m.o.size
    obtain ⟨y, w5, e5, hO5, s6, w6, e6, own6, gs, hO6, hgs⟩ := app_w own4 [125] z4 (by omega)
    refine ⟨y, w5, e5, s6, w6, e6, ?_⟩
    have t6 := (t4.q hO5).row b2 hu2 (hO6.p (F := fun k => w2.heap.size <= k) fun x hx => .inl (hgs x hx).2)
    have hsum := sum_snoc ws [125]
    have hjl := joinM_len (ws ++ [[125]])
    have hl1 : ([125] : List UInt8).length = 1 := rfl
    refine (joined_c own6 (by omega) (by rw [List.length_append, List.length_singleton]; omega)).mono ?_
    rintro _ w7 ⟨rfl, hP7⟩
    have t7 := t6.row b2 hu2 hP7
    have hsz : 1 <= szAs xs := by
      have : 1 <= xs.length := List.length_pos_iff.2 hne
      omega
    refine ⟨_, rfl, joinM (ws ++ [[125]]), st4, rfl, by omega, fun e => ?_, (hU1.tr hU4).cg (by simp) (by simp), t7.toQz, hm2.trans t7.m⟩
    rw [if_neg hne, htx e]
    exact blT_t xs
  refine ⟨fun nv l1 i w' => ∃ (j : Nat) (ws : List (List UInt8)) (st' : St), i = j /\ j <= xs.length /\ nv = xs.length - j /\ Own rTx 1 9 w2.heap.size w' (fun _ => True) l1 ws /\ ws.length <= j + 1 /\ (ws.map fun l => l.length + 1).sum <= 2 + 16401 * szAs (xs.take j) /\ (st'.1 = false -> ws = [123] :: (xs.take j).map acT) /\ Up st1 ((xs.take j).all acOk) 0 st' /\ Zq true w0 w2 b w' l st' [],
    xs.length, ⟨0, [[123]], st1, rfl, Nat.zero_le _, rfl, own3, Nat.le_refl _, Nat.le_refl _, fun _ => rfl, h2.up0, t3⟩, ?_⟩
  rintro nv l4 _ w7 ⟨j, ws, st7, rfl, hj, rfl, own7, hwl, hws, htx, hU7, t7⟩
  have z7 := t7.m.o.size
  have hcut : szAs xs = szAs (xs.take j) + szAs (xs.drop j) := by rw [<- szAs_app, List.take_append_drop]
  refine ⟨fun hc => ?_, fun hc => ?_⟩
  · have hlt : (j : Int) < s.n := of_decide_eq_true hc
    have hx7 : SliceF (rAc false) 9 w7 F s xs := SliceF.keep (rAc_ok false) hx (by decide) fun k hk _ => h.arg t7.toQz (hF k hk)
    obtain ⟨ad, a, cs, g1, g2, g3, g4, g5, g6⟩ := hx7.get (Int.natCast_nonneg j) hlt
    rw [Int.toNat_natCast] at g2
    have ha := List.mem_of_getElem? g2
    have htk : xs.take (j + 1) = xs.take j ++ [a] := by
      rw [List.take_add_one, g2]
      rfl
    have hsa : szAs (xs.take (j + 1)) = szAs (xs.take j) + szA a := by
      rw [htk, szAs_app]
      show _ + (szA a + 0) = _
      omega
    have hcut1 : szAs xs = szAs (xs.take (j + 1)) + szAs (xs.drop (j + 1)) := by rw [<- szAs_app, List.take_append_drop]
    obtain ⟨xc, rfl, hxc⟩ := g6
    obtain ⟨xl, rfl⟩ := rE_cells hxc
    refine ⟨ad, g1, _, _, _, _, _, _, _, _, _, g5, fun k5 w8 hk5 hk5' hO8 => ?_⟩
    have t8 := t7.al hO8 hk5 hk5'
    obtain ⟨q8, sl8, hB8, _⟩ := t8.toQz.set
    refine ⟨st7.1, Blk.at1 hB8 2 rfl, fun hw => ?_, fun hw => ?_⟩
    · have t8' : Zq true w0 w2 b w8 l st7 [] := ⟨t8.toQz, t8.m, fun k hk => (by cases hk)⟩
      have own8 := own7.keep rTx_ok fun k hk hlt => hO8.block k hlt (by simp)
      exact ⟨ws, st7, own8, by omega, by omega, fun e => absurd (hw.symm.trans e) (by decide), hU7.bad hw all_take (Nat.le_refl _), t8'⟩
    refine (act_c t8.toQz ((rAc_ok false).keep ⟨_, rfl, hxc⟩ fun k _ hlt => hO8.block k hlt (by simp)) hF (hn a ha) (by have := szAs_mem ha; omega) hE hT).mono ?_
    rintro _ w9 ⟨tx, st9, rfl, hl9, htx9, hU9, h9, hm9⟩
    have t9 := t8.nx h9 hm9
    have hlt9 : ∀ g, l4.a = some ⟨g, 0, none⟩ -> w2.heap.size <= g /\ g < w7.heap.size := fun g hg => by
      rcases own7 with ⟨rfl, _⟩ | ⟨g', css, tl, a1, a2, a4, _⟩
      · cases hg
      · rw [a1] at hg
        injection hg with hg
        injection hg with hg
        subst hg
        exact ⟨a2, a4.lt⟩
    have own9 : Own rTx 1 9 w2.heap.size w9 (fun _ => True) l4 ws := by
      have o1 := own7.keep rTx_ok (w' := w8) fun k hk hlt => hO8.block k hlt (by simp)
      refine (o1.mono (G := fun _ => True) rTx_ok fun _ _ => trivial).far hm9.only1 b2
    obtain ⟨y, w10, e10, hO10, s11, w11, e11, own11, gs, hO11, hgs⟩ := app_w own9 tx (Nat.le_trans z7 (Nat.le_trans hO8.size hm9.o.size)) (by omega)
    have t10 := t9.q hO10
    have t11 := t10.row b2 hu2 (hO11.p (F := fun k => w2.heap.size <= k) fun x hx => .inl (hgs x hx).2)
    have s11 : Same [k5] w10 w11 := hO11.same fun x hx => by
      have := (t10.k x (by simpa using hx)).1
      refine ⟨this, fun hm => ?_⟩
      have := (hlt9 x (hgs x hm).1).2
      simp only [List.mem_singleton] at hx
      omega
    have hsum := sum_snoc ws tx
    refine ⟨_, rfl, t8.sm hm9 (by simp), y, w10, e10, t9.sq hO10 (by simp), _, w11, e11, s11, xs.length - (j + 1), by omega, j + 1, ws ++ [tx], st9, by rw [wr' (by omega) (by omega)]; rfl, by omega, rfl, own11, by rw [List.length_append, List.length_singleton]; omega, ?_, fun e => ?_, (hU7.tr hU9).cg ?_ rfl, ⟨t11.toQz, t11.m, fun k hk => (by cases hk)⟩⟩
    · rw [hsum, hsa]
      have : 16400 + a.n.length + 1 <= 16401 * szA a := by unfold szA; omega
      omega
    · obtain ⟨e1, e2, _⟩ := hU9.ok e
      rw [htx e1, htx9 e2, htk, List.map_append]
      rfl
    · rw [htk, List.all_append]
      simp
  · have hge : ¬ (j : Int) < s.n := of_decide_eq_false hc
    have hje : j = xs.length := by omega
    subst hje
    rw [List.take_of_length_le (Nat.le_refl _)] at hws htx hU7
    exact ⟨ws, st7, own7, by omega, hws, htx, hU7, t7⟩
end
theorem jn_c {w : World} {F : Nat -> Prop} {s : Sl} {xs : List (List UInt8)} (h : SliceF rTx 1 w F s xs) (sep : List UInt8) (hl : (Lib.join xs sep).length <= 140737488355328) (hn : xs.length <= 140737488355328) :
  Calls Tryz.prog 103 #[s.v, .string (T sep)] w fun e w' => e = .returned (.string (T (Lib.join xs sep))) /\ Only [] w w' := by
 have hlen := h.len
 have hcap := h.cap
 obtain ⟨sa, sn, sc⟩ := s
 dsimp only at hlen hcap
 subst hlen
 cases xs with
 | nil =>
  refine (Tryz.strings_Join_none sa sc (T sep) w).mono ?_
  rintro _ w2 ⟨rfl, rfl⟩
  exact ⟨rfl, Only.refl _ _⟩
 | cons x xs =>
  obtain ⟨base, cs, g1, g2, g3, g4, g5⟩ := h.at_ 0 x rfl
  have g1 : sa = some base := g1
  unfold rTx at g5
  subst g5 g1
  have h0 := g4 0 _ rfl
  have hsp : base.spot = none := by
   unfold World.cell? at h0
   split at h0
   · split at h0
     · cases h0
     · rename_i hs
       have e : ((base.add (0 * 1)).add 0).spot = base.spot := rfl
       rw [e] at hs
       cases hb : base.spot with
       | none => rfl
       | some v => rw [hb] at hs; simp at hs
   · cases h0
  obtain ⟨bk, o, sp⟩ := base
  dsimp only at hsp
  subst hsp
  have hlt : bk < w.heap.size := by
   have e : ((Addr.add ⟨bk, o, none⟩ (0 * 1)).add 0 : Addr) = ⟨bk, o, none⟩ := by simp [Addr.add]
   rw [e] at h0
   refine Decidable.byContradiction fun hn => ?_
   unfold World.cell? at h0
   rw [Array.getElem?_eq_none (by dsimp only; omega)] at h0
   cases h0
  have := Tryz.strings_Join bk o sc ((x :: xs).map T) (T sep) w (fun j y hj => by
   rw [List.getElem?_map, Option.map_eq_some_iff] at hj
   obtain ⟨z, hz, rfl⟩ := hj
   obtain ⟨base, cs, g1, g2, g3, g4, g5⟩ := h.at_ j z hz
   unfold rTx at g5
   subst g5
   cases g1
   have := g4 0 _ rfl
   have e : ((Addr.add ⟨bk, o, none⟩ (j * 1)).add 0 : Addr) = ⟨bk, o + j, none⟩ := by simp [Addr.add]
   rw [e] at this
   exact this) hlt (by rw [List.length_map]; omega) (by rw [List.length_map]; omega) (by
   rw [List.map_map]
   have : ((fun x : ByteArray => x.data.toList) ∘ T) = id := rfl
   rw [this, List.map_id]
   exact hl)
  rw [List.length_map] at this
  refine this.mono ?_
  rintro _ w2 ⟨rfl, hB⟩
  refine ⟨?_, Only.below hB⟩
  rw [List.map_map]
  have : ((fun x : ByteArray => x.data.toList) ∘ T) = id := rfl
  rw [this, List.map_id]
theorem jt_tg : ∀ l : List (List UInt8), Lib.joinTail [44, 32] l = tgT l
 | [] => rfl
 | s :: l => by
  unfold Lib.joinTail
  rw [List.map_cons, List.flatten_cons]
  show [44, 32] ++ s ++ Lib.joinTail [44, 32] l = _
  rw [jt_tg l]
  rfl
theorem tgT_len (s : List UInt8) (l : List (List UInt8)) : (Lib.join (s :: l) [44, 32]).length <= 2 * szT (s :: l) := by
 have h1 : ∀ l : List (List UInt8), (tgT l).length <= 2 * szT l := fun l => by
  induction l with
  | nil => exact Nat.zero_le _
  | cons s l ih =>
   unfold szT at ih ⊢
   rw [List.map_cons, List.sum_cons, tgT, List.length_cons, List.length_cons, List.length_append]
   omega
 rw [Lib.join_cons, jt_tg, List.length_append]
 have := h1 l
 have e : szT (s :: l) = (s.length + 1) + szT l := by unfold szT; rw [List.map_cons, List.sum_cons]
 omega
theorem szT_len (l : List (List UInt8)) : l.length <= szT l := by
 unfold szT
 induction l with
 | nil => exact Nat.zero_le _
 | cons s l ih => rw [List.map_cons, List.sum_cons, List.length_cons]; omega
theorem szT_mem {s : List UInt8} {l : List (List UInt8)} (h : s ∈ l) : s.length + 1 <= szT l := by
 unfold szT
 induction l with
 | nil => simp at h
 | cons x l ih =>
  rw [List.map_cons, List.sum_cons]
  rcases List.mem_cons.1 h with rfl | h
  · omega
  · have := ih h; omega
def hdM (m : Mv) : List UInt8 := if m.k = 1 then joinM [wOn, m.ev] else if m.k = 3 then joinM [wAfter, Lib.itoa m.wt] else wAlways
def gdM (m : Mv) : List UInt8 := if m.gd then 91 :: (exX m.g ++ [93]) else []
def toM (m : Mv) : List UInt8 := match m.tg with
 | [] => []
 | s :: l => 45 :: 62 :: 32 :: (s ++ tgT l)
theorem itoa_len {n : Int} (h : InI n) : (Lib.itoa n).length <= 21 := Lib.itoa_length_le n h.1 h.2
theorem itoa_ne (n : Int) : ne (Lib.itoa n) = true := by
 have : Lib.itoa n ≠ [] := by
  unfold Lib.itoa
  split
  · simp
  · rw [Lib.decDigits]; split <;> simp
 unfold ne
 rw [decide_eq_false this]
 rfl
theorem mv_words {m : Mv} (h : mvOk m = true) : joinM [hdM m, gdM m, (if m.acts = [] then [] else blT m.acts), toM m] ++ [59] = mvT m := by
 unfold mvOk at h
 simp only [Bool.and_eq_true] at h
 obtain ⟨⟨⟨⟨⟨h1, h2⟩, h3⟩, h4⟩, h5⟩, h6⟩ := h
 have hh : hdM m = hdT m /\ ne (hdM m) = true := by
  unfold hdM hdT
  by_cases k1 : m.k = 1
  · rw [if_pos k1] at h2
    rw [if_pos k1, if_pos k1, join2 (by decide), fl_cons (name_ne h2), List.filter_nil, jt_cons, jt_nil, List.append_nil]
    exact ⟨rfl, rfl⟩
  · rw [if_neg k1, if_neg k1]
    by_cases k3 : m.k = 3
    · rw [if_pos k3, if_pos k3, join2 (by decide), fl_cons (itoa_ne _), List.filter_nil, jt_cons, jt_nil, List.append_nil]
      exact ⟨rfl, rfl⟩
    · rw [if_neg k3, if_neg k3]
      exact ⟨rfl, by decide⟩
 rw [join2 hh.2, hh.1]
 unfold mvT
 rw [List.append_assoc]
 congr 1
 have e1 : Lib.joinTail [32] ([gdM m, (if m.acts = [] then [] else blT m.acts), toM m].filter ne) = gdT m ++ ((if m.acts = [] then [] else 32 :: blT m.acts) ++ (match m.tg with
  | [] => []
  | s :: l => 32 :: 45 :: 62 :: 32 :: (s ++ tgT l))) := by
  have eg : ∀ ws : List (List UInt8), Lib.joinTail [32] ((gdM m :: ws).filter ne) = gdT m ++ Lib.joinTail [32] (ws.filter ne) := fun ws => by
   unfold gdM gdT
   cases m.gd
   · simp only [Bool.false_eq_true, if_false]
     rw [fl_nil]
     rfl
   · simp only [if_true]
     rw [fl_cons (by rfl), jt_cons]
     rfl
  have ea : ∀ ws : List (List UInt8), Lib.joinTail [32] (((if m.acts = [] then [] else blT m.acts) :: ws).filter ne) = (if m.acts = [] then [] else 32 :: blT m.acts) ++ Lib.joinTail [32] (ws.filter ne) := fun ws => by
   by_cases ha : m.acts = []
   · rw [if_pos ha, if_pos ha, fl_nil]
     rfl
   · rw [if_neg ha, if_neg ha, fl_cons (by rfl), jt_cons]
     rfl
  rw [eg, ea]
  congr 2
  unfold toM
  cases m.tg with
  | nil => rfl
  | cons s l =>
   rw [fl_cons (by rfl), jt_cons, List.filter_nil, jt_nil, List.append_nil]
 rw [e1]
 simp only [List.append_assoc]
 all_goals rfl
theorem mvB (m : Mv) : ((((if m.k = 1 then nameM m.ev else if m.k = 3 then decide (0 <= m.wt) else decide (m.k = 2)) && ((decide (m.ev = []) || (m.k == 1)) && ((m.wt == 0) || (m.k == 3)))) && (if m.gd then exOk m.g else noneX m.g)) && (m.tg.all nameM && m.acts.all acOk)) = mvOk m := by
 unfold mvOk
 generalize (if m.gd then exOk m.g else noneX m.g) = A
 generalize m.tg.all nameM = B
 generalize m.acts.all acOk = C
 generalize nameM m.ev = D
 by_cases k1 : m.k = 1
 · rw [if_pos k1, if_pos k1, k1]
   cases D <;> cases A <;> cases B <;> cases C <;> by_cases hw : m.wt = 0 <;> simp [hw]
 · rw [if_neg k1, if_neg k1]
   by_cases k3 : m.k = 3
   · rw [if_pos k3, k3]
     cases A <;> cases B <;> cases C <;> by_cases he : m.ev = [] <;> by_cases hw : m.wt = 0 <;> by_cases hp : 0 < m.wt <;> simp [hw, he, hp] <;> omega
   · rw [if_neg k3]
     by_cases k2 : m.k = 2
     · rw [k2]
       cases A <;> cases B <;> cases C <;> by_cases he : m.ev = [] <;> by_cases hw : m.wt = 0 <;> simp [hw, he]
     · have : ¬ (1 <= m.k /\ m.k <= 3) := by omega
       rw [decide_eq_false this, decide_eq_false k2]
       simp
section
variable {w0 w : World} {b : Nat} {l : List UInt8} {st : St}
theorem move_c (h : Qz w0 b w l st) {F : Nat -> Prop} {m : Mv} {cs : List Value} (hx : rMv false w F m cs) (hF : ∀ k, F k -> k < w0.heap.size) (hn : mvN m) (hs : szM m <= 16777216) (hE : Er w0) (hT : Tb w0) :
  Calls Tryz.prog 67 #[rp b, .agg cs.toArray] w fun e w' => ∃ t st', e = .returned (.string (T t)) /\ t.length <= 16450 * szM m /\ (st'.1 = false -> t = mvT m) /\ Up st (mvOk m) m.acts.length st' /\ Qz w0 b w' l st' /\ Mw true b w w' := by
 obtain ⟨gc, asl, tg, rfl, hg, hac, htg⟩ := hx
 obtain ⟨gl, rfl⟩ := rE_cells hg
 have hac := hac.1
 have htg := htg.1
 have hsz := hs
 unfold szM at hsz
 refine (v53w ⟨b, 0, none⟩ m.k (T m.ev) m.wt m.gd m.g.k m.g.n (T m.g.s) m.g.op gl m.g.a asl tg m.a (fun v w' => ∃ t st', v = .string (T t) /\ t.length <= 16450 * szM m /\ (st'.1 = false -> t = mvT m) /\ Up st (mvOk m) m.acts.length st' /\ Qz w0 b w' l st' /\ Mw true b w w') w ?_).mono (by
  rintro e w' ⟨v, rfl, s, st', rfl, h⟩; exact ⟨s, st', rfl, h⟩)
 unfold v53v
 intro k0 w1 hk0 hk0' hO1
 have t1 := (h.z true).al hO1 hk0 hk0'
 have htl := htg.len
 have htn := szT_len m.tg
 refine ⟨fun s0 w' => ∃ hd st', s0 = T hd /\ hd.length <= 30 + m.ev.length /\ (st'.1 = false -> hd = hdM m) /\ Up st (if m.k = 1 then nameM m.ev else if m.k = 3 then decide (0 <= m.wt) else decide (m.k = 2)) 0 st' /\ Zq true w0 w b w' l st' [k0], ?_, fun hc => ?_, fun hc => ⟨fun hc3 => ?_, fun hc3 => ?_⟩⟩
 · rintro _ w2 ⟨hd, st2, rfl, hdl, hdt, hU2, t2⟩
   refine (pmust_c t2.toQz _).mono ?_
   rintro _ w3 ⟨rfl, st3, u1, u2, u3⟩
   have t3 := t2.nx u2 u3
   have hU3 := hU2.tr u1
   rw [show ByteArray.mk #[] = T [] from rfl, T_eq] at hU3
   refine ⟨rfl, t2.sm u3 (by simp), fun s1 w' => ∃ gt st', s1 = T gt /\ gt.length <= 16386 /\ (st'.1 = false -> gt = gdM m) /\ Up st3 (if m.gd then exOk m.g else noneX m.g) 0 st' /\ Zq true w0 w b w' l st' [k0], ?_, fun hgd => ?_, fun hgd => ?_⟩
   · rintro _ w4 ⟨gt, st4, rfl, gtl, gtt, hU4, t4⟩
     refine ⟨fun nv i w' => ∃ (j : Nat) (st' : St), i = j /\ j <= m.tg.length /\ nv = m.tg.length - j /\ Up st4 ((m.tg.take j).all nameM) 0 st' /\ Zq true w0 w b w' l st' [k0], m.tg.length, ⟨0, st4, rfl, Nat.zero_le _, rfl, t4.toQz.up0, t4⟩, ?_⟩
     rintro nv _ w5 ⟨j, st5, rfl, hj, rfl, hU5, t5⟩
     have htg5 : SliceF rTx 1 w5 F tg m.tg := SliceF.keep rTx_ok htg (by decide) fun k hk _ => h.arg t5.toQz (hF k hk)
     refine ⟨fun hc => ?_, fun hc => ?_⟩
     · have hlt : (j : Int) < tg.n := of_decide_eq_true hc
       obtain ⟨ad, x, cs, g1, g2, g3, g4, g5, g6⟩ := htg5.get (Int.natCast_nonneg j) hlt
       rw [Int.toNat_natCast] at g2
       unfold rTx at g6
       subst g6
       have hxm := szT_mem (List.mem_of_getElem? g2)
       refine ⟨ad, g1, _, g5, (pname_c t5.toQz x (by omega)).mono ?_⟩
       rintro _ w6 ⟨rfl, st6, v1, v2, v3⟩
       refine ⟨_, rfl, t5.sm v3 (by simp), m.tg.length - (j + 1), by omega, j + 1, st6, by rw [wr' (by omega) (by omega)]; rfl, by omega, rfl, (hU5.tr v1).cg ?_ rfl, t5.nx v2 v3⟩
       rw [List.take_add_one, g2, List.all_append]
       simp
     · have hge : ¬ (j : Int) < tg.n := of_decide_eq_false hc
       have hje : j = m.tg.length := by omega
       subst hje
       rw [List.take_of_length_le (Nat.le_refl _)] at hU5
       refine ⟨fun s4 w' => s4 = T (toM m) /\ Zq true w0 w b w' l st5 [k0], ?_, fun hc => ?_, fun hc => ?_⟩
       · rintro _ w7 ⟨rfl, t7⟩
         refine (block_c t7.toQz (SliceF.keep (rAc_ok false) hac (by decide) fun k hk _ => h.arg t7.toQz (hF k hk)) hF hn.a (by omega) hE hT).mono ?_
         rintro _ w8 ⟨bt, st8, rfl, btl, btt, hU8, v2, v3⟩
         have t8 := t7.nx v2 v3
         have htoL : (toM m).length <= 3 + 2 * szT m.tg := by
          unfold toM
          cases hm : m.tg with
          | nil => exact Nat.zero_le _
          | cons s l =>
           have := tgT_len s l
           rw [Lib.join_cons, jt_tg] at this
           rw [List.length_cons, List.length_cons, List.length_cons]
           omega
         have hjl := joinM_len [hd, gt, bt, toM m]
         simp only [List.map_cons, List.map_nil, List.sum_cons, List.sum_nil] at hjl
         have hev : szM m = (szAs m.acts + szX m.g) + (szT m.tg + (m.ev.length + 1)) := rfl
         obtain ⟨q9, w9, e9, hO9, _, hj9⟩ := joinB w8 [hd, gt, bt, toM m] (n := 4) (parts := #[.mk 0 (.string (T hd)), .mk 1 (.string (T gt)), .mk 2 (.string (T bt)), .mk 3 (.string (T (toM m)))]) rfl rfl (by decide) (by decide) (by omega)
         have z9 := hO9.size
         refine ⟨_, rfl, t7.sm v3 (by simp), q9, w9, e9, t8.sq hO9 (by simp), hj9.mono ?_⟩
         rintro _ w10 ⟨rfl, hP10⟩
         have t10 := t8.q (far_only hO9 hP10)
         have hU := (hU3.tr hU4).tr (hU5.tr hU8)
         refine ⟨_, rfl, t8.sj z9 hP10 (by simp), by rw [T_size]; omega, joinM [hd, gt, bt, toM m] ++ [59], st8, by rw [show ByteArray.mk #[59] = T [59] from rfl, T_app], by rw [List.length_append, List.length_singleton]; omega, fun e => ?_, hU.cg ?_ (by omega), t10.toQz, t10.m⟩
         · obtain ⟨x5, x8, _⟩ := hU8.ok e
           obtain ⟨x4, x5', _⟩ := hU5.ok x5
           obtain ⟨x3, x4', _⟩ := hU4.ok x4
           obtain ⟨x2, x3', _⟩ := u1.ok x3
           obtain ⟨x1, x2', _⟩ := hU2.ok x2
           rw [hdt x2, gtt x4, btt e]
           refine mv_words ?_
           obtain ⟨_, y, _⟩ := hU.ok e
           exact (mvB m).symm.trans y
         · exact mvB m
       · have hpos : m.tg ≠ [] := fun e => by
          rw [e] at htl
          have : tg.n = 0 := htl
          rw [this] at hc
          exact absurd hc (by decide)
         have hjl : (Lib.join m.tg [44, 32]).length <= 2 * szT m.tg := by
          cases hm : m.tg with
          | nil => exact absurd hm hpos
          | cons s l => exact tgT_len s l
         refine (jn_c htg5 [44, 32] (by omega) (by omega)).mono ?_
         rintro _ w7 ⟨rfl, hO7⟩
         refine ⟨_, rfl, t5.sq hO7 (by simp), by rw [T_size]; omega, ?_, t5.q hO7⟩
         rw [show ByteArray.mk #[45, 62, 32] = T [45, 62, 32] from rfl, T_app]
         congr 1
         unfold toM
         cases hm : m.tg with
         | nil => exact absurd hm hpos
         | cons s l =>
          rw [Lib.join_cons, jt_tg]
          rfl
       · have hz : m.tg = [] := List.eq_nil_of_length_eq_zero (by have := of_decide_eq_false hc; omega)
         refine ⟨?_, t5⟩
         unfold toM
         rw [hz]
   · refine (pexpr_c t3.toQz ((rE_ok false).keep hg fun k hk _ => h.arg t3.toQz (hF k hk)) hn.g (by omega) hE hT).mono ?_
     rintro _ w4 ⟨rfl, st4, v1, v2, v3⟩
     have t4 := t3.nx v2 v3
     have := exX_len m.g
     refine ⟨_, rfl, t3.sm v3 (by simp), by rw [T_size]; omega, ?_, 91 :: (exX m.g ++ [93]), st4, ?_, by simp; omega, fun _ => by unfold gdM; rw [if_pos hgd], by rw [if_pos hgd]; exact v1, t4⟩
     · rw [show ByteArray.mk #[91] = T [91] from rfl, T_app, T_size, List.length_append, List.length_singleton]; omega
     · rw [show ByteArray.mk #[91] = T [91] from rfl, show ByteArray.mk #[93] = T [93] from rfl, T_app, T_app]
       rfl
   · refine (pbare_c t3.toQz ((rE_ok false).keep hg fun k hk _ => h.arg t3.toQz (hF k hk))).mono ?_
     rintro _ w4 ⟨rfl, st4, v1, v2, v3⟩
     exact ⟨rfl, t3.sm v3 (by simp), [], st4, rfl, Nat.zero_le _, fun _ => by unfold gdM; rw [if_neg (by rw [hgd]; decide)], by rw [if_neg (by rw [hgd]; decide)]; exact v1, t3.nx v2 v3⟩
 · have hk : m.k = 1 := by simpa using hc
   refine (pname_c t1.toQz m.ev (by omega)).mono ?_
   rintro _ w2 ⟨rfl, st2, v1, v2, v3⟩
   have t2 := t1.nx v2 v3
   have hjl := joinM_len [wOn, m.ev]
   simp only [List.map_cons, List.map_nil, List.sum_cons, List.sum_nil] at hjl
   have hw : wOn.length = 2 := rfl
   obtain ⟨q3, w3, e3, hO3, _, hj3⟩ := joinB w2 [wOn, m.ev] (n := 2) (parts := #[.mk 0 (.string (T wOn)), .mk 1 (.string (T m.ev))]) rfl rfl (by decide) (by decide) (by omega)
   have z3 := hO3.size
   refine ⟨_, rfl, t1.sm v3 (by simp), q3, w3, e3, t2.sq hO3 (by simp), hj3.mono ?_⟩
   rintro _ w4 ⟨rfl, hP4⟩
   exact ⟨_, rfl, t2.sj z3 hP4 (by simp), _, st2, rfl, by omega, fun _ => by unfold hdM; rw [if_pos hk], by rw [if_pos hk]; exact v1, t2.q (far_only hO3 hP4)⟩
 · have hk1 : m.k ≠ 1 := by simpa using hc
   have hk : m.k = 3 := by simpa using hc3
   refine (pmust_c t1.toQz _).mono ?_
   rintro _ w2 ⟨rfl, st2, v1, v2, v3⟩
   have t2 := t1.nx v2 v3
   refine ⟨rfl, t1.sm v3 (by simp), (ctext_c m.wt hn.w (hT.only t2.o)).mono ?_⟩
   rintro _ w3 ⟨rfl, hO3⟩
   have t3 := t2.q hO3
   have hjl := joinM_len [wAfter, Lib.itoa m.wt]
   simp only [List.map_cons, List.map_nil, List.sum_cons, List.sum_nil] at hjl
   have hw : wAfter.length = 5 := rfl
   have hil := itoa_len hn.w
   obtain ⟨q4, w4, e4, hO4, _, hj4⟩ := joinB w3 [wAfter, Lib.itoa m.wt] (n := 2) (parts := #[.mk 0 (.string (T wAfter)), .mk 1 (.string (T (Lib.itoa m.wt)))]) rfl rfl (by decide) (by decide) (by omega)
   have z4 := hO4.size
   refine ⟨_, rfl, t2.sq hO3 (by simp), q4, w4, e4, t3.sq hO4 (by simp), hj4.mono ?_⟩
   rintro _ w5 ⟨rfl, hP5⟩
   exact ⟨_, rfl, t3.sj z4 hP5 (by simp), _, st2, rfl, by omega, fun _ => by unfold hdM; rw [if_neg hk1, if_pos hk], by rw [if_neg hk1, if_pos hk]; exact v1, t3.q (far_only hO4 hP5)⟩
 · have hk1 : m.k ≠ 1 := by simpa using hc
   have hk3 : m.k ≠ 3 := by simpa using hc3
   refine (pmust_c t1.toQz _).mono ?_
   rintro _ w2 ⟨rfl, st2, v1, v2, v3⟩
   have t2 := t1.nx v2 v3
   refine ⟨rfl, t1.sm v3 (by simp), wAlways, st2, rfl, by show 6 <= _; omega, fun _ => by unfold hdM; rw [if_neg hk1, if_neg hk3], by rw [if_neg hk1, if_neg hk3]; exact v1, t2⟩
end
theorem pcheck_c {w : World} {b : Nat} {q : Option Addr} {v1 v2 v3 : Value} (hq : q = none ∨ q = some ⟨b, 0, none⟩) (h : Blk w b 68 [.pointer q, v1, v2, v3]) :
  Calls Tryz.prog 99 #[.pointer (some ⟨b, 0, none⟩)] w fun e w' => e = .returned (.tuple #[]) /\ Only [b] w w' /\ Blk w' b 68 [.pointer (some ⟨b, 0, none⟩), v1, v2, v3] := by
 refine ret (v89w ⟨b, 0, none⟩ (fun v w' => v = .tuple #[] /\ Only [b] w w' /\ Blk w' b 68 [.pointer (some ⟨b, 0, none⟩), v1, v2, v3]) w ?_)
 unfold v89v
 have hsh : w.shape? b = some (68, 4) := by
  unfold World.shape?
  unfold Blk at h
  rw [h]
  rfl
 refine ⟨q, Blk.at1 h 0 rfl, fun hn => ?_, fun hn => ⟨q, Blk.at1 h 0 rfl, ?_⟩⟩
 · have hr1 := Lib.run_to_unsafe (P := Tryz.prog) (src := 63) (dst := 195) w ⟨b, 0, none⟩ (t := 66) (j := Tryz.t66) (by kernel_rfl) (by kernel_rfl) (by kernel_rfl) (by decide) hsh (by decide : (0 : Nat) < 4)
   have hr2 := Lib.run_from_unsafe (P := Tryz.prog) (src := 195) (dst := 63) w ⟨b, 0, none⟩ (u := 66) (j := Tryz.t66) (by kernel_rfl) (by kernel_rfl) (by kernel_rfl) hsh (by kernel_rfl)
   exact ⟨⟨.pointer (some ⟨b, 0, none⟩), rfl⟩, w, hr1, ⟨.pointer (some ⟨b, 0, none⟩), rfl⟩, w, noEsc _ w, some ⟨b, 0, none⟩, w, hr2, b, 0, _, _, rfl, h, by simp, fun w3 hO hB => ⟨rfl, hO, hB⟩⟩
 · rcases hq with rfl | rfl
   · cases hn
   · exact ⟨false, w, Lib.run_neq_ptr_same w _ (te := 66) (j := Tryz.t66) (by kernel_rfl) (by kernel_rfl), fun e => (by cases e), fun _ => ⟨rfl, Only.refl _ _, h⟩⟩
section
variable {w0 w : World} {b : Nat} {l : List UInt8} {st : St}
theorem pwstr_c (h : Qz w0 b w l st) (m : List UInt8) (hm : l.length + m.length <= 274877906944) : Calls Tryz.prog 60 #[.pointer (some ⟨b, 0, none⟩), .string (T m)] w fun e w' =>
  e = .returned (.tuple #[.int .i64 (m.length : Int), .nilIface]) /\ Qz w0 b w' (l ++ m) st /\ Mw false b w w' := by
 refine ret (v88w ⟨b, 0, none⟩ (T m) (fun v w' => v = .tuple #[.int .i64 (m.length : Int), .nilIface] /\ Qz w0 b w' (l ++ m) st /\ Mw false b w w') w ?_)
 unfold v88v
 obtain ⟨q, sl, hq, hB, hbuf0⟩ := h.ex
 refine (pcheck_c hq hB).mono ?_
 rintro _ w1 ⟨rfl, hO0, hB0⟩
 have z0 := hO0.size
 have hb := hB.lt
 have hbuf : Bf w1 (b + 1) sl l := hbuf0.keep fun g hg hl => hO0.block g hl (by have := (hbuf0.lt hg).1; simp; omega)
 obtain ⟨s', w2, k1, k2, k3, k4⟩ := app_str hbuf m (by omega) (by omega)
 have z1 := k3.size
 have hB1 : Blk w2 b 68 [.pointer (some ⟨b, 0, none⟩), sl.v, .bool st.1, .int .i64 st.2] := k3.blk hB0 fun e => by have := (hbuf.lt e).1; omega
 have hs' : ∀ g, s'.a = some ⟨g, 0, none⟩ -> b < g := fun g hg => by
  rcases k4 with e | e
  · rw [e] at hg; exact (hbuf.lt hg).1
  · rw [e] at hg; injection hg with hg; injection hg with hg; omega
 refine ⟨rfl, sl, Blk.at1 hB0 1 rfl, s', w2, k1, b, 1, _, _, rfl, hB1, by simp, fun w3 hO2 hB2 => ?_⟩
 have hB2 : Blk w3 b 68 [.pointer (some ⟨b, 0, none⟩), s'.v, .bool st.1, .int .i64 st.2] := hB2
 have hall : OnlyP (fun k => k = b ∨ (false = false /\ Bu w b k)) w w3 := ((hO0.p (F := fun k => k = b ∨ (false = false /\ Bu w b k)) fun x hx => .inl (.inl (by simpa using hx))).trans k3 fun k hk => .inl (.inr ⟨rfl, sl_bu hB hk⟩)).trans (hO2.p (F := fun k => k = b) fun x hx => .inl (by simpa using hx)) fun k hk => .inl (.inl hk)
 refine ⟨by rw [T_size], ⟨?_, h.lo, ⟨_, _, .inr rfl, hB2, k2.keep fun g hg hl => hO2.block g hl (by have := hs' g hg; simp; omega)⟩, h.i, by rw [List.length_append]; exact hm⟩, hall, fun k hk => ?_⟩
 · refine ⟨hall.os.trans h.o.os, hall.tape.trans h.o.tape, hall.output.trans h.o.output, Nat.le_trans h.o.size hall.size, fun k hk _ => (hall.block k (Nat.lt_of_lt_of_le hk h.o.size) ?_).trans (h.o.block k hk (by simp))⟩
   rintro (e | ⟨_, e⟩)
   · have := h.lo; omega
   · have := (h.bu e).1; have := h.lo; omega
 · have e := bu_sl hB2 hk
   rcases k4 with e2 | e2
   · exact .inl (sl_bu hB (e2 ▸ e))
   · rw [e2] at e
     injection e with e
     injection e with e
     exact .inr ⟨rfl, by omega⟩
theorem Zq.sl {f g : Bool} {ws w1 w' : World} {ks ks' : List Nat} (t : Zq f w0 ws b w l st ks) (hO : Only [] w w1) (m : Mw g b w w') (hk : ∀ k, k ∈ ks' -> k ∈ ks) : Same ks' w1 w' := fun x hx =>
 (t.sm m hk x hx).trans (t.sq hO hk x hx).symm
theorem rep_ind : ∀ d, Lib.repeatL [32, 32] d = indT d
 | 0 => rfl
 | d + 1 => by rw [Lib.repeatL, rep_ind d]; rfl
theorem ind_len : ∀ d, (indT d).length = 2 * d
 | 0 => rfl
 | d + 1 => by rw [indT, List.length_cons, List.length_cons, ind_len d]; omega
theorem lineB (h : Qz w0 b w l st) (ws : List (List UInt8)) {n : Nat} {parts : Array (Nat × Value)} (hp : parts = (((ws.map fun x => Value.string (T x)).zipIdx 0).map fun x => (x.2, x.1)).toArray) (hn : ws.length = n) (h0 : 0 < n) (hsm : n * 1 <= 16777216) (d : Nat) (hd : d <= 12) (hl : (joinM ws).length <= 274877889536) :
  ∃ (q : Sl) (w1 : World), (Instr.buildSlice 57 n parts).run Tryz.prog w = .ok q.v w1 /\ Only [] w w1 /\ Calls Tryz.prog 31 #[rp b, .int .i64 (d : Int), q.v] w1 fun e w' => e = .returned (.tuple #[]) /\ Qz w0 b w' (if st.1 then l else putL l (d, joinM ws)) st /\ Mw false b w w' := by
 obtain ⟨q, w1, e1, own1, hO1⟩ := buildS w ws hp hn h0 hsm
 refine ⟨q, w1, e1, hO1, ?_⟩
 have t1 := (h.z true).q hO1
 have hb := h.lb
 have hbu : ∀ k, Bu w b k -> k < w.heap.size := fun k hk => (h.bu hk).2
 refine ret (v52w ⟨b, 0, none⟩ (d : Int) q (fun v w' => v = .tuple #[] /\ Qz w0 b w' (if st.1 then l else putL l (d, joinM ws)) st /\ Mw false b w w') w1 ?_)
 unfold v52v
 refine (pwide_c t1.toQz).mono ?_
 rintro _ w2 ⟨rfl, rfl⟩
 obtain ⟨qq, sl, hB, _⟩ := t1.toQz.set
 refine ⟨_, rfl, st.1, fun _ => Blk.at1 hB 2 rfl, fun hc w3 hO3 => ?_, fun hc => ?_⟩
 · simp only [Bool.and_eq_true, Bool.not_eq_true', decide_eq_false_iff_not] at hc
   obtain ⟨hc1, hc2⟩ := hc
   have t3 := t1.q hO3
   refine (Tryz.strings_Repeat (T [32, 32]) d w3 (by omega) (by show 2 * d <= _; omega)).mono ?_
   rintro _ w4 ⟨rfl, hB4⟩
   have hO4 := Only.below hB4
   have t4 := t3.q hO4
   have own4 := own1.keep rTx_ok (w' := w4) fun k hk hlt => (hO3.tr0 hO4).block k hlt (by simp)
   have hdl := ind_len d
   refine ⟨T (indT d), by rw [show (T [32, 32]).data.toList = [32, 32] from rfl, rep_ind], (joined_c own4 (by omega) (by omega)).mono ?_⟩
   rintro _ w5 ⟨rfl, hP5⟩
   have t5 := t4.row hb hbu hP5
   refine ⟨_, rfl, by rw [T_size, T_size]; omega, by rw [T_app, T_size, List.length_append]; omega, ?_⟩
   rw [show ByteArray.mk #[10] = T [10] from rfl, T_app, T_app, show (Addr.add ⟨b, 0, none⟩ 0 : Addr) = ⟨b, 0, none⟩ from rfl]
   refine (pwstr_c t5.toQz _ ?_).mono ?_
   · simp only [List.length_append, List.length_cons, List.length_nil]
     omega
   rintro _ w6 ⟨rfl, h6, m6⟩
   refine ⟨_, ⟨.nilIface, rfl⟩, rfl, rfl, ?_, t5.m.up.trans m6⟩
   rw [hc2, if_neg (by decide)]
   unfold putL lnT
   rw [if_neg hc1]
   dsimp only
   rw [List.append_assoc] at h6
   exact h6
 · refine ⟨rfl, ?_, t1.m.up⟩
   have : (if st.1 then l else putL l (d, joinM ws)) = l := by
    cases e : st.1
    · rw [e] at hc
      have hc : 16384 < l.length := by simpa using hc
      rw [if_neg (by decide)]
      unfold putL
      rw [if_pos hc]
    · rfl
   rw [this]
   exact t1.toQz
theorem clause_c (h : Qz w0 b w l st) (d : Nat) (hd : d <= 12) (word text : List UInt8) (hw : word.length <= 100) (hl : text.length <= 274877880000) :
  Calls Tryz.prog 65 #[rp b, .int .i64 (d : Int), .string (T word), .string (T text)] w fun e w' => e = .returned (.tuple #[]) /\ Qz w0 b w' (if st.1 || decide (text = []) then l else putL l (d, joinM [word, text])) st /\ Mw false b w w' := by
 refine ret (v50w ⟨b, 0, none⟩ (d : Int) (T word) (T text) (fun v w' => v = .tuple #[] /\ Qz w0 b w' (if st.1 || decide (text = []) then l else putL l (d, joinM [word, text])) st /\ Mw false b w w') w ?_)
 unfold v50v
 rw [show ByteArray.mk #[] = T [] from rfl, T_eq]
 refine ⟨fun hc => ?_, fun hc => ?_⟩
 · have hc : text ≠ [] := by simpa using hc
   have hjl := joinM_len [word, text]
   simp only [List.map_cons, List.map_nil, List.sum_cons, List.sum_nil] at hjl
   obtain ⟨q, w1, e1, hO1, hj⟩ := lineB h [word, text] (n := 2) (parts := #[.mk 0 (.string (T word)), .mk 1 (.string (T text))]) rfl rfl (by decide) (by decide) d hd (by omega)
   refine ⟨q, w1, e1, hj.mono ?_⟩
   rintro _ w2 ⟨rfl, h2, m2⟩
   refine ⟨rfl, rfl, ?_, m2⟩
   rw [decide_eq_false hc, Bool.or_false]
   exact h2
 · have hc : text = [] := by simpa using hc
   refine ⟨rfl, ?_, Mw.refl _ _ _⟩
   rw [decide_eq_true hc, Bool.or_true, if_pos rfl]
   exact h
end
def szMs : List Mv -> Nat
 | [] => 0
 | m :: l => szM m + szMs l
def szB (b : Nb) : Nat := ((b.nm.length + b.ini.length) + (b.dft.length + 1)) + ((szAs b.en + szAs b.lv) + szMs b.mv)
mutual
def szN : Nd -> Nat
 | .mk b l => szB b + szNs l
def szNs : List Nd -> Nat
 | [] => 0
 | x :: l => szN x + szNs l
end
theorem szMs_mem {m : Mv} : ∀ {l : List Mv}, m ∈ l -> szM m <= szMs l
 | [], h => by simp at h
 | x :: l, h => by
  rw [szMs]
  rcases List.mem_cons.1 h with rfl | h
  · omega
  · have := szMs_mem h; omega
theorem szMs_len : ∀ (l : List Mv), l.length <= szMs l
 | [] => Nat.zero_le _
 | m :: l => by
  have := szMs_len l
  rw [szMs, List.length_cons]
  unfold szM
  omega
theorem szNs_mem {x : Nd} : ∀ {l : List Nd}, x ∈ l -> szN x <= szNs l
 | [], h => by simp at h
 | y :: l, h => by
  rw [szNs]
  rcases List.mem_cons.1 h with rfl | h
  · omega
  · have := szNs_mem h; omega
theorem szN_pos (x : Nd) : 1 <= szN x := by
 obtain ⟨b, l⟩ := x
 rw [szN]
 unfold szB
 omega
theorem szNs_len : ∀ (l : List Nd), l.length <= szNs l
 | [] => Nat.zero_le _
 | x :: l => by
  have := szNs_len l
  have := szN_pos x
  rw [szNs, List.length_cons]
  omega
theorem ndsN_mem {x : Nd} : ∀ {l : List Nd}, ndsN l -> x ∈ l -> ndN x
 | [], _, h => by simp at h
 | y :: l, hn, h => by
  rw [ndsN] at hn
  rcases List.mem_cons.1 h with rfl | h
  · exact hn.1
  · exact ndsN_mem hn.2 h
theorem ndsOk_snoc (d : Nat) (x : Nd) : ∀ l : List Nd, ndsOk d (l ++ [x]) = (ndsOk d l && ndOk d x)
 | [] => by simp [ndsOk]
 | y :: l => by rw [List.cons_append, ndsOk, ndsOk, ndsOk_snoc d x l, Bool.and_assoc]
theorem nAcs_snoc (x : Nd) : ∀ l : List Nd, nAcs (l ++ [x]) = nAcs l + nAc x
 | [] => by simp [nAcs]
 | y :: l => by rw [List.cons_append, nAcs, nAcs, nAcs_snoc x l]; omega
theorem ndsL_snoc (d : Nat) (x : Nd) : ∀ l : List Nd, ndsL d (l ++ [x]) = ndsL d l ++ ndL d x
 | [] => by simp [ndsL]
 | y :: l => by rw [List.cons_append, ndsL, ndsL, ndsL_snoc d x l, List.append_assoc]
def bdOk (x : Nb) (ks : List Nd) (d : Nat) : Bool := (decide (x.ini = []) || nameM x.ini) && (x.en.all acOk && (x.lv.all acOk && (x.mv.all mvOk && ndsOk d ks)))
theorem putLs_one (l : List UInt8) (p : Ln) : putLs l [p] = putL l p := rfl
theorem blT_ne (l : List Ac) : blT l ≠ [] := by unfold blT; simp
theorem put_step {st' : St} {l l1 l2 : List UInt8} {L M : List Ln} {st1 : St} {c : Bool} {n : Nat} (hU : Up st1 c n st') (h1 : st1.1 = false -> l1 = putLs l L) (h2 : st'.1 = false -> l2 = putLs l1 M) : st'.1 = false -> l2 = putLs l (L ++ M) := fun e => by
 rw [h2 e, h1 (hU.ok e).1, putLs_app]
def PNodeC (D : Nat) : Prop := ∀ (w0 w : World) (b : Nat) (l : List UInt8) (st : St) (F : Nat -> Prop) (x : Nd) (cs : List Value) (d : Nat), Qz w0 b w l st -> rNd false D w F x cs -> (∀ k, F k -> k < w0.heap.size) -> ndN x -> szN x <= 8388608 -> d <= 12 -> Er w0 -> Tb w0 ->
 Calls Tryz.prog 68 #[rp b, .agg cs.toArray, .int .i64 (d : Int)] w fun e w' => e = .returned (.tuple #[]) /\ ∃ st' l', Up st (ndOk d x) (nAc x) st' /\ (st'.1 = false -> l' = putLs l (ndL d x)) /\ Qz w0 b w' l' st' /\ Mw false b w w'
section
variable {w0 w : World} {b : Nat} {l : List UInt8} {st : St}
theorem body_c {D : Nat} (hN : PNodeC D) (h : Qz w0 b w l st) {F : Nat -> Prop} {x : Nb} {en lv mv kids : Sl} {ks : List Nd} (hb : NbR false w F x en lv mv) (hk : SlG false (rNd false D) 9 27 w F kids ks) (hF : ∀ k, F k -> k < w0.heap.size) (hn : nbN x) (hnk : ndsN ks) (hs : szB x + szNs ks <= 8388608) (d : Nat) (hd : d <= 12) (hE : Er w0) (hT : Tb w0) :
  Calls Tryz.prog 34 #[rp b, .agg (ndv x.k x.nm x.ini x.dft en lv mv kids x.a).toArray, .int .i64 (d : Int)] w fun e w' => e = .returned (.tuple #[]) /\ ∃ st' l', Up st (bdOk x ks d) (nbA x + nAcs ks) st' /\ (st'.1 = false -> l' = putLs l (nbL d x ++ ndsL d ks)) /\ Qz w0 b w' l' st' /\ Mw false b w w' := by
 have hs0 := hs
 unfold szB at hs0
 have hml := szMs_len x.mv
 have hkl := szNs_len ks
 obtain ⟨hen, hlv, hmv⟩ := hb
 have hen := hen.1
 have hlv := hlv.1
 have hmv := hmv.1
 have hk := hk.1
 refine ret (v49w ⟨b, 0, none⟩ x.k (T x.nm) (T x.ini) (T x.dft) en lv mv kids x.a (d : Int) (fun v w' => v = .tuple #[] /\ ∃ st' l', Up st (bdOk x ks d) (nbA x + nAcs ks) st' /\ (st'.1 = false -> l' = putLs l (nbL d x ++ ndsL d ks)) /\ Qz w0 b w' l' st' /\ Mw false b w w') w ?_)
 unfold v49v
 intro k0 w1 hk0 hk0' hO1
 have t1 := (h.z false).al hO1 hk0 hk0'
 rw [show ByteArray.mk #[] = T [] from rfl, T_eq]
 refine ⟨fun w' => ∃ st1 l1, Up st (decide (x.ini = []) || nameM x.ini) 0 st1 /\ (st1.1 = false -> l1 = putLs l (iniL d x)) /\ Zq false w0 w b w' l1 st1 [k0], ?_, fun hc => ?_, fun hc => ?_⟩
 · rintro w2 ⟨st2, l2, hU2, hl2, t2⟩
   refine (block_c t2.toQz (SliceF.keep (rAc_ok false) hen (by decide) fun k hk _ => h.arg t2.toQz (hF k hk)) hF hn.en (by omega) hE hT).mono ?_
   rintro _ w3 ⟨tx3, st3, rfl, tl3, tt3, hU3, q3, m3⟩
   have t3 := t2.nx q3 m3.up
   refine ⟨_, rfl, t2.sm m3 (by simp), (clause_c t3.toQz d hd wEnter tx3 (by decide) (by omega)).mono ?_⟩
   rintro _ w4 ⟨rfl, q4, m4⟩
   have t4 := t3.nx q4 m4
   have hl4 : st3.1 = false -> (if st3.1 || decide (tx3 = []) then l2 else putL l2 (d, joinM [wEnter, tx3])) = putLs l2 (enL d x) := fun e => by
    rw [e, tt3 e]
    unfold enL
    by_cases he : x.en = []
    · rw [if_pos he, if_pos he]; rfl
    · rw [if_neg he, if_neg he, decide_eq_false (blT_ne _), if_neg (by decide), putLs_one, join2 (by decide), fl_cons (by rfl), List.filter_nil, jt_cons, jt_nil, List.append_nil]
   generalize (if st3.1 || decide (tx3 = []) then l2 else putL l2 (d, joinM [wEnter, tx3])) = l4 at *
   refine ⟨rfl, t3.sm m4 (by simp), (block_c t4.toQz (SliceF.keep (rAc_ok false) hlv (by decide) fun k hk _ => h.arg t4.toQz (hF k hk)) hF hn.lv (by omega) hE hT).mono ?_⟩
   rintro _ w5 ⟨tx5, st5, rfl, tl5, tt5, hU5, q5, m5⟩
   have t5 := t4.nx q5 m5.up
   refine ⟨_, rfl, t4.sm m5 (by simp), (clause_c t5.toQz d hd wLeave tx5 (by decide) (by omega)).mono ?_⟩
   rintro _ w6 ⟨rfl, q6, m6⟩
   have t6 := t5.nx q6 m6
   have hl6 : st5.1 = false -> (if st5.1 || decide (tx5 = []) then l4 else putL l4 (d, joinM [wLeave, tx5])) = putLs l4 (lvL d x) := fun e => by
    rw [e, tt5 e]
    unfold lvL
    by_cases he : x.lv = []
    · rw [if_pos he, if_pos he]; rfl
    · rw [if_neg he, if_neg he, decide_eq_false (blT_ne _), if_neg (by decide), putLs_one, join2 (by decide), fl_cons (by rfl), List.filter_nil, jt_cons, jt_nil, List.append_nil]
   generalize (if st5.1 || decide (tx5 = []) then l4 else putL l4 (d, joinM [wLeave, tx5])) = l6 at *
   have hL4 := put_step hU3 hl2 hl4
   have hL6 := put_step hU5 hL4 hl6
   refine ⟨rfl, t5.sm m6 (by simp), fun nv i w' => ∃ (j : Nat) (st' : St) (l' : List UInt8), i = j /\ j <= x.mv.length /\ nv = x.mv.length - j /\ Up st5 ((x.mv.take j).all mvOk) ((x.mv.take j).map fun m => m.acts.length).sum st' /\ (st'.1 = false -> l' = putLs l6 ((x.mv.take j).map fun m => (d, mvT m))) /\ Zq false w0 w b w' l' st' [k0],
    x.mv.length, ⟨0, st5, l6, rfl, Nat.zero_le _, rfl, t6.toQz.up0, fun _ => rfl, t6⟩, ?_⟩
   rintro nv _ w7 ⟨j, st7, l7, rfl, hj, rfl, hU7, hl7, t7⟩
   have hmlen := hmv.len
   have hmv7 : SliceF (rMv false) 13 w7 F mv x.mv := SliceF.keep (rMv_ok false) hmv (by decide) fun k hk _ => h.arg t7.toQz (hF k hk)
   refine ⟨fun hc => ?_, fun hc => ?_⟩
   · have hlt : (j : Int) < mv.n := of_decide_eq_true hc
     obtain ⟨ad, m, cs, g1, g2, g3, g4, g5, g6⟩ := hmv7.get (Int.natCast_nonneg j) hlt
     rw [Int.toNat_natCast] at g2
     have hmm := List.mem_of_getElem? g2
     have hms := szMs_mem hmm
     have htk : x.mv.take (j + 1) = x.mv.take j ++ [m] := by
      rw [List.take_add_one, g2]
      rfl
     have g6' := g6
     obtain ⟨gc, asl, tg, rfl, r1, r2, r3⟩ := g6'
     obtain ⟨gl, rfl⟩ := rE_cells r1
     refine ⟨ad, g1, _, _, _, _, _, _, _, _, _, _, _, _, _, g5, fun k3 w8 hk3 hk3' hO8 => ?_⟩
     have t8 := t7.al hO8 hk3 hk3'
     refine (move_c t8.toQz ((rMv_ok false).keep g6 fun k _ hlt => hO8.block k hlt (by simp)) hF (hn.mv m hmm) (by omega) hE hT).mono ?_
     rintro _ w9 ⟨tx9, st9, rfl, tl9, tt9, hU9, q9, m9⟩
     have t9 := t8.nx q9 m9.up
     have hjl := joinM_len [tx9]
     simp only [List.map_cons, List.map_nil, List.sum_cons, List.sum_nil] at hjl
     obtain ⟨q10, w10, e10, hO10, hj10⟩ := lineB t9.toQz [tx9] (n := 1) (parts := #[.mk 0 (.string (T tx9))]) rfl rfl (by decide) (by decide) d hd (by omega)
     refine ⟨_, rfl, t8.sm m9 (by simp), q10, w10, e10, t9.sq hO10 (by simp), hj10.mono ?_⟩
     rintro _ w11 ⟨rfl, q11, m11⟩
     have t11 := t9.nx q11 m11
     refine ⟨rfl, t9.sl hO10 m11 (by simp), x.mv.length - (j + 1), by omega, j + 1, st9, _, by rw [wr' (by omega) (by omega)]; rfl, by omega, rfl, (hU7.tr hU9).cg ?_ ?_, fun e => ?_, ⟨t11.toQz, t11.m, fun k hk => t11.k k (by simp at hk; simp [hk])⟩⟩
     · rw [htk, List.all_append]; simp
     · rw [htk, List.map_append, List.sum_append]; simp
     · rw [e, if_neg (by decide), hl7 (hU9.ok e).1, htk, List.map_append, putLs_app, tt9 e]
       show _ = putL _ (d, mvT m)
       have : ne (mvT m) = true := by
        have : mvT m ≠ [] := by unfold mvT; simp
        unfold ne
        rw [decide_eq_false this]
        rfl
       rw [join2 this, List.filter_nil, jt_nil, List.append_nil]
   · have hge : ¬ (j : Int) < mv.n := of_decide_eq_false hc
     have hje : j = x.mv.length := by omega
     subst hje
     rw [List.take_of_length_le (Nat.le_refl _)] at hU7 hl7
     have hL7 := put_step hU7 hL6 hl7
     refine ⟨fun nv i w' => ∃ (j : Nat) (st' : St) (l' : List UInt8), i = j /\ j <= ks.length /\ nv = ks.length - j /\ Up st7 (ndsOk d (ks.take j)) (nAcs (ks.take j)) st' /\ (st'.1 = false -> l' = putLs l7 (ndsL d (ks.take j))) /\ Zq false w0 w b w' l' st' [k0],
      ks.length, ⟨0, st7, l7, rfl, Nat.zero_le _, rfl, by rw [List.take_zero, ndsOk, nAcs]; exact t7.toQz.up0, fun _ => by rw [List.take_zero, ndsL]; rfl, t7⟩, ?_⟩
     rintro nv _ w11 ⟨j, st11, l11, rfl, hj, rfl, hU11, hl11, t11⟩
     have hklen := hk.len
     have hk11 : SliceF (rNd false D) 9 w11 F kids ks := SliceF.keep (rNd_ok false D) hk (by decide) fun k hk _ => h.arg t11.toQz (hF k hk)
     refine ⟨fun hc => ?_, fun hc => ?_⟩
     · have hlt : (j : Int) < kids.n := of_decide_eq_true hc
       obtain ⟨ad, y, cs, g1, g2, g3, g4, g5, g6⟩ := hk11.get (Int.natCast_nonneg j) hlt
       rw [Int.toNat_natCast] at g2
       have hym := List.mem_of_getElem? g2
       have hys := szNs_mem hym
       have htk : ks.take (j + 1) = ks.take j ++ [y] := by
        rw [List.take_add_one, g2]
        rfl
       have g6' := g6
       cases D with
       | zero => exact g6'.elim
       | succ D =>
       obtain ⟨en', lv', mv', kids', rfl, _⟩ := g6'
       refine ⟨ad, g1, _, _, _, _, en', lv', mv', kids', _, g5, fun k7 w12 hk7 hk7' hO12 => ?_⟩
       have t12 := t11.al hO12 hk7 hk7'
       refine (hN _ _ _ _ _ _ _ _ d t12.toQz ((rNd_ok false _).keep g6 fun k _ hlt => hO12.block k hlt (by simp)) hF (ndsN_mem hnk hym) (by omega) hd hE hT).mono ?_
       rintro _ w13 ⟨rfl, st13, l13, hU13, hl13, q13, m13⟩
       have t13 := t12.nx q13 m13
       refine ⟨rfl, t12.sm m13 (by simp), ks.length - (j + 1), by omega, j + 1, st13, l13, by rw [wr' (by omega) (by omega)]; rfl, by omega, rfl, (hU11.tr hU13).cg ?_ ?_, fun e => ?_, ⟨t13.toQz, t13.m, fun k hk => t13.k k (by simp at hk; simp [hk])⟩⟩
       · rw [htk, ndsOk_snoc]
       · rw [htk, nAcs_snoc]
       · rw [hl13 e, hl11 (hU13.ok e).1, htk, ndsL_snoc, putLs_app]
     · have hge : ¬ (j : Int) < kids.n := of_decide_eq_false hc
       have hje : j = ks.length := by omega
       subst hje
       rw [List.take_of_length_le (Nat.le_refl _)] at hU11 hl11
       have hL11 := put_step hU11 hL7 hl11
       refine ⟨rfl, st11, l11, (hU2.tr (hU3.tr (hU5.tr (hU7.tr hU11)))).cg rfl ?_, fun e => ?_, t11.toQz, t11.m⟩
       · unfold nbA; omega
       · rw [hL11 e]
         unfold nbL mvL
         simp only [List.append_assoc]
 · have hc : x.ini ≠ [] := by simpa using hc
   refine (pname_c t1.toQz x.ini (by omega)).mono ?_
   rintro _ w2 ⟨rfl, st2, hU2, q2, m2⟩
   have t2 := t1.nx q2 m2.up
   refine ⟨_, rfl, t1.sm m2 (by simp), by rw [T_size]; omega, ?_⟩
   rw [show ByteArray.mk #[59] = T [59] from rfl, T_app]
   refine (clause_c t2.toQz d hd wInitial (x.ini ++ [59]) (by decide) (by rw [List.length_append, List.length_singleton]; omega)).mono ?_
   rintro _ w3 ⟨rfl, q3, m3⟩
   refine ⟨rfl, t2.sm m3 (by simp), st2, _, hU2.cg (by rw [decide_eq_false hc, Bool.false_or]) rfl, fun e => ?_, t2.nx q3 m3⟩
   have hne : x.ini ++ [59] ≠ [] := by simp
   have hne2 : ne (x.ini ++ [59]) = true := by unfold ne; rw [decide_eq_false hne]; rfl
   rw [e, decide_eq_false hne, if_neg (by decide), join2 (by decide), fl_cons hne2, List.filter_nil, jt_cons, jt_nil, List.append_nil]
   unfold iniL
   rw [if_neg hc]
   rfl
 · have hc : x.ini = [] := by simpa using hc
   refine ⟨st, l, h.up0.cg (by rw [decide_eq_true hc]; rfl) rfl, fun _ => by unfold iniL; rw [if_pos hc]; rfl, t1⟩
end
theorem Up.more {st st' : St} {c : Bool} {n : Nat} (h : Up st c 0 st') (hn : c = true -> n = 0) : Up st c n st' := by
 cases c with
 | true => rw [hn rfl]; exact h
 | false =>
  refine ⟨?_, fun e => ?_⟩
  · rw [h.w]; simp
  · have := h.w
    rw [e] at this
    simp at this
def nodeW : List (List UInt8) := [[], wState, wParallel, wHistory, wDeep]
theorem kW_at {k : Int} (h1 : 1 <= k) (h2 : k <= 4) : nodeW[k.toNat]? = some (kW k) := by
 have : k = 1 ∨ k = 2 ∨ k = 3 ∨ k = 4 := by omega
 rcases this with rfl | rfl | rfl | rfl <;> rfl
theorem kW_ne (k : Int) : ne (kW k) = true := by
 unfold kW
 split
 · rfl
 split
 · rfl
 split
 · rfl
 · rfl
theorem kW_len (k : Int) : (kW k).length <= 8 := by
 unfold kW
 split
 · decide
 split
 · decide
 split
 · decide
 · decide
theorem node_st {d : Nat} {b : Nb} {l : List Nd} (hk : b.k = 1 ∨ b.k = 2) (hd : d < 12) : ((decide (b.dft = []) && nameM b.nm) && bdOk b l (d + 1)) = ndOk d (.mk b l) := by
 have hh : hist b.k = false := by unfold hist; exact decide_eq_false (by omega)
 rw [ndOk, decide_eq_true hd, Bool.true_and]
 unfold nbOk bdOk
 rw [hh, if_neg (by decide)]
 have : decide ((b.k = 1 ∨ b.k = 2) /\ b.dft = []) = decide (b.dft = []) := by simp [hk]
 rw [this]
 generalize decide (b.dft = []) = A
 generalize nameM b.nm = B
 generalize (decide (b.ini = []) || nameM b.ini) = C
 generalize b.en.all acOk = D
 generalize b.lv.all acOk = E
 generalize b.mv.all mvOk = G
 generalize ndsOk (d + 1) l = H
 cases A <;> cases B <;> cases C <;> cases D <;> cases E <;> cases G <;> cases H <;> rfl
theorem node_hi {d : Nat} {b : Nb} {l : List Nd} (hk : b.k = 3 ∨ b.k = 4) (hd : d < 12) : (((decide (b.ini = []) && decide (b.en = [] /\ b.lv = [] /\ b.mv = [] /\ l = [])) && nameM b.nm) && nameM b.dft) = ndOk d (.mk b l) := by
 have hh : hist b.k = true := by unfold hist; exact decide_eq_true hk
 rw [ndOk, decide_eq_true hd, Bool.true_and]
 unfold nbOk
 rw [hh, if_pos rfl]
 by_cases hl : l = []
 · subst hl
   have : decide (b.ini = [] /\ b.en = [] /\ b.lv = [] /\ b.mv.length = 0 /\ ([] : List Nd).length = 0) = (decide (b.ini = []) && decide (b.en = [] /\ b.lv = [] /\ b.mv = [] /\ ([] : List Nd) = [])) := by
    rw [Bool.eq_iff_iff]
    simp
   rw [this, ndsOk]
   generalize decide (b.ini = []) = A
   generalize decide (b.en = [] /\ b.lv = [] /\ b.mv = [] /\ ([] : List Nd) = []) = B
   cases A <;> cases B <;> cases nameM b.nm <;> cases nameM b.dft <;> rfl
 · have h1 : decide (b.en = [] /\ b.lv = [] /\ b.mv = [] /\ l = []) = false := decide_eq_false fun h => hl h.2.2.2
   have h2 : decide (b.ini = [] /\ b.en = [] /\ b.lv = [] /\ b.mv.length = 0 /\ l.length = 0) = false := decide_eq_false fun h => hl (List.eq_nil_of_length_eq_zero h.2.2.2.2)
   rw [h1, h2]
   simp
theorem node_no {d : Nat} {b : Nb} {l : List Nd} (h : ¬ (1 <= b.k /\ b.k <= 4) ∨ 12 <= d) : ndOk d (.mk b l) = false := by
 rw [ndOk]
 rcases h with h | h
 · have hh : hist b.k = false := by unfold hist; exact decide_eq_false (by omega)
   have : decide ((b.k = 1 ∨ b.k = 2) /\ b.dft = []) = false := decide_eq_false (by omega)
   unfold nbOk
   rw [hh, if_neg (by decide), this]
   simp
 · rw [decide_eq_false (by omega)]
   rfl
theorem pnode_c : ∀ D, PNodeC D
 | 0 => by
  intro w0 w b l st F x cs d h hx
  exact hx.elim
 | D + 1 => by
  intro w0 w b l st F x cs d h hx hF hn hs hd hE hT
  obtain ⟨bb, ks⟩ := x
  have hx0 := hx
  obtain ⟨en, lv, mv, kids, rfl, hnb, hkids⟩ := hx
  have hnb : NbR false w F bb en lv mv := hnb
  have hkids : SlG false (rNd false D) 9 27 w F kids ks := hkids
  show Calls Tryz.prog 68 #[rp b, .agg (ndv bb.k bb.nm bb.ini bb.dft en lv mv kids bb.a).toArray, .int .i64 (d : Int)] w _
  rw [ndN] at hn
  rw [szN] at hs
  have hs0 := hs
  unfold szB at hs0
  refine ret (v56w ⟨b, 0, none⟩ bb.k (T bb.nm) (T bb.ini) (T bb.dft) en lv mv kids bb.a (d : Int) (fun v w' => v = .tuple #[] /\ ∃ st' l', Up st (ndOk d (.mk bb ks)) (nAc (.mk bb ks)) st' /\ (st'.1 = false -> l' = putLs l (ndL d (.mk bb ks))) /\ Qz w0 b w' l' st' /\ Mw false b w w') w ?_)
  unfold v56v
  intro k0 w1 hk0 hk0' hO1
  have t1 := (h.z false).al hO1 hk0 hk0'
  obtain ⟨q, sl, hB, _⟩ := t1.toQz.set
  have bad : ∀ {w' : World} {st' : St} {lx : List UInt8}, st'.1 = true -> Zq false w0 w b w' lx st' [k0] -> (st.1 = true ∨ ndOk d (.mk bb ks) = false) -> ∃ st' l', Up st (ndOk d (.mk bb ks)) (nAc (.mk bb ks)) st' /\ (st'.1 = false -> l' = putLs l (ndL d (.mk bb ks))) /\ Qz w0 b w' l' st' /\ Mw false b w w' := by
   intro w' st' lx e t hc
   refine ⟨st', lx, ⟨?_, fun e2 => absurd (e.symm.trans e2) (by decide)⟩, fun e2 => absurd (e.symm.trans e2) (by decide), t.toQz, t.m⟩
   rw [e]
   rcases hc with hc | hc
   · rw [hc]; rfl
   · rw [hc]; simp
  refine ⟨st.1, Blk.at1 hB 2 rfl, fun hc => ?_, fun hc => ?_⟩
  · refine (pmust_c t1.toQz false).mono ?_
    rintro _ w2 ⟨rfl, st2, u1, u2, u3⟩
    refine ⟨rfl, t1.sm u3 (by simp), rfl, bad (by rw [u1.w]; simp) (t1.nx u2 u3.up) ?_⟩
    rw [Bool.or_eq_true] at hc
    rcases hc with hc | hc
    · exact .inl hc
    · exact .inr (node_no (.inr (by have := of_decide_eq_true hc; omega)))
  rw [Bool.or_eq_false_iff] at hc
  have hd12 : d < 12 := by have := of_decide_eq_false hc.2; omega
  obtain ⟨q2, w2, g, cs, e2, hO2, hg1, hg2, hB2, hat⟩ := buildW w1 nodeW (n := 5) (parts := #[.mk 0 (.string (ByteArray.mk #[])), .mk 1 (.string (ByteArray.mk #[115, 116, 97, 116, 101])), .mk 2 (.string (ByteArray.mk #[112, 97, 114, 97, 108, 108, 101, 108])), .mk 3 (.string (ByteArray.mk #[104, 105, 115, 116, 111, 114, 121])), .mk 4 (.string (ByteArray.mk #[100, 101, 101, 112]))]) rfl rfl (by decide) (by decide)
  have t2 := t1.al hO2 hg1 hg2
  have hwd : 1 <= bb.k /\ bb.k <= 4 -> SlAt q2 bb.k 1 ⟨g, bb.k.toNat, none⟩ /\ ∀ w', Blk w' g 9 cs -> Cells w' ⟨g, bb.k.toNat, none⟩ [.string (T (kW bb.k))] := fun hk => by
   have := hat _ _ (kW_at hk.1 hk.2)
   rwa [Int.toNat_of_nonneg (by omega)] at this
  have hkl := kW_len bb.k
  have z2 : ∀ {w3 : World}, Only [] w2 w3 -> Blk w3 g 9 cs := fun hO => hO.blk hB2 (by simp)
  have z2m : ∀ {w3 w4 : World} {lx : List UInt8} {sx : St} {f : Bool}, Zq false w0 w b w3 lx sx [g, k0] -> Mw f b w3 w4 -> Blk w3 g 9 cs -> Blk w4 g 9 cs := fun t m hB => (t.sm (ks' := [g]) m (by simp) g (by simp)).trans hB
  refine ⟨q2, w2, e2, t1.sq hO2 (by simp), fun b1 w3 => w2 = w3 /\ b1 = decide (bb.k = 1 ∨ bb.k = 2), ?_, fun hc1 => ⟨rfl, ?_⟩, fun hc1 => ⟨rfl, ?_⟩⟩
  · rintro b1 _ ⟨rfl, rfl⟩
    refine ⟨fun hc3 => ?_, fun hc3 => ?_⟩
    · have hk := of_decide_eq_true hc3
      have hkr : 1 <= bb.k /\ bb.k <= 4 := by omega
      obtain ⟨y1, y2⟩ := hwd hkr
      rw [show ByteArray.mk #[] = T [] from rfl, T_eq]
      refine (pmust_c t2.toQz _).mono ?_
      rintro _ w4 ⟨rfl, st4, u1, u2, u3⟩
      have t4 := t2.nx u2 u3.up
      refine ⟨rfl, t2.sm u3 (by simp), fun w5 hO5 => ⟨fun k => k ∈ [k0, g], by simp, _, y1, by simp, _, y2 w5 (hO5.blk (z2m t2 u3 hB2) (by simp)), ?_⟩⟩
      have t5 := t4.q hO5
      refine (pname_c t5.toQz bb.nm (by omega)).mono ?_
      rintro _ w6 ⟨rfl, st6, v1, v2, v3⟩
      have t6 := t5.nx v2 v3.up
      have hjl := joinM_len [kW bb.k, bb.nm, [123]]
      simp only [List.map_cons, List.map_nil, List.sum_cons, List.sum_nil, List.length_cons, List.length_nil] at hjl
      obtain ⟨q7, w7, e7, hO7, hj7⟩ := lineB t6.toQz [kW bb.k, bb.nm, [123]] (n := 3) (parts := #[.mk 0 (.string (T (kW bb.k))), .mk 1 (.string (T bb.nm)), .mk 2 (.string (T [123]))]) rfl rfl (by decide) (by decide) d hd (by omega)
      refine ⟨_, rfl, t5.sm v3 (by simp), Keeps.of (t5.sm v3 (by simp)), q7, w7, e7, t6.sq hO7 (by simp), Keeps.of (t6.sq hO7 (by simp)), hj7.mono ?_⟩
      rintro _ w8 ⟨rfl, x1, x2⟩
      have t8 := t6.nx x1 x2
      have hl8 : st6.1 = false -> (if st6.1 then l else putL l (d, joinM [kW bb.k, bb.nm, [123]])) = putLs l [(d, kW bb.k ++ 32 :: (bb.nm ++ [32, 123]))] := fun e => by
       rw [e, if_neg (by decide), putLs_one, join2 (kW_ne _), fl_cons (name_ne (v1.ok e).2.1), fl_cons (by rfl), List.filter_nil, jt_cons, jt_cons, jt_nil]
       rfl
      generalize (if st6.1 then l else putL l (d, joinM [kW bb.k, bb.nm, [123]])) = l8 at *
      have ed : IntKind.wrap .i64 ((d : Int) + 1) = ((d + 1 : Nat) : Int) := by rw [wr' (by omega) (by omega)]; rfl
      rw [ed]
      refine ⟨rfl, t6.sl hO7 x2 (by simp), Keeps.of (t6.sl hO7 x2 (by simp)), (body_c (pnode_c D) t8.toQz (hnb.keep fun k hk _ => h.arg t8.toQz (hF k hk)) (hkids.keep (rNd_ok false D) (by decide) fun k hk _ => h.arg t8.toQz (hF k hk)) hF hn.1 hn.2 hs (d + 1) (by omega) hE hT).mono ?_⟩
      rintro _ w9 ⟨rfl, st9, l9, hU9, hl9, y3, y4⟩
      have t9 := t8.nx y3 y4
      obtain ⟨q10, w10, e10, hO10, hj10⟩ := lineB t9.toQz [[125]] (n := 1) (parts := #[.mk 0 (.string (T [125]))]) rfl rfl (by decide) (by decide) d hd (by decide)
      refine ⟨rfl, t8.sm y4 (by simp), q10, w10, e10, t9.sq hO10 (by simp), hj10.mono ?_⟩
      rintro _ w11 ⟨rfl, x3, x4⟩
      have t11 := t9.nx x3 x4
      refine ⟨rfl, t9.sl hO10 x4 (by simp), rfl, st9, _, ((u1.tr v1).tr hU9).cg (node_st hk hd12) (by rw [nAc]; omega), fun e => ?_, t11.toQz, t11.m⟩
      have hh : hist bb.k = false := by unfold hist; exact decide_eq_false (by omega)
      rw [ndL, hh, e]
      simp only [Bool.false_eq_true, if_false]
      rw [hl9 e, hl8 (hU9.ok e).1, <- putLs_app]
      have e1 : joinM [[125]] = [125] := by decide
      rw [e1, <- putLs_one, <- putLs_app]
      simp only [List.append_assoc, List.cons_append, List.nil_append]
    · have hnk := of_decide_eq_false hc3
      refine ⟨fun b2 w12 => w2 = w12 /\ b2 = decide (bb.k = 3 ∨ bb.k = 4), ?_, fun hc4 => ⟨rfl, ?_⟩, fun hc4 => ⟨rfl, ?_⟩⟩
      · rintro b2 _ ⟨rfl, rfl⟩
        refine ⟨fun hc5 => ?_, fun hc5 => ?_⟩
        · have hk := of_decide_eq_true hc5
          have hkr : 1 <= bb.k /\ bb.k <= 4 := by omega
          obtain ⟨y1, y2⟩ := hwd hkr
          have n4 := hnb.1.1.len
          have n5 := hnb.2.1.1.len
          have n6 := hnb.2.2.1.len
          have n7 := hkids.1.len
          have a4 := szAs_len bb.en
          have a5 := szAs_len bb.lv
          have a6 := szMs_len bb.mv
          have a7 := szNs_len ks
          have esum : (IntKind.wrap .i64 ((IntKind.wrap .i64 ((IntKind.wrap .i64 ((en.n : Int) + (lv.n : Int))) + (mv.n : Int))) + (kids.n : Int)) == 0) = decide (bb.en = [] /\ bb.lv = [] /\ bb.mv = [] /\ ks = []) := by
           rw [wr' (x := (en.n : Int) + (lv.n : Int)) (by omega) (by omega), wr' (x := (en.n : Int) + (lv.n : Int) + (mv.n : Int)) (by omega) (by omega), wr' (by omega) (by omega), Bool.eq_iff_iff]
           simp only [beq_iff_eq, decide_eq_true_eq]
           refine ⟨fun e => ?_, fun ⟨e1, e2, e3, e4⟩ => ?_⟩
           · exact ⟨List.eq_nil_of_length_eq_zero (by omega), List.eq_nil_of_length_eq_zero (by omega), List.eq_nil_of_length_eq_zero (by omega), List.eq_nil_of_length_eq_zero (by omega)⟩
           · rw [n4, n5, n6, n7, e1, e2, e3, e4]; rfl
          rw [show ByteArray.mk #[] = T [] from rfl, T_eq, esum]
          refine (pmust_c t2.toQz _).mono ?_
          rintro _ w13 ⟨rfl, st13, u1, u2, u3⟩
          have t13 := t2.nx u2 u3.up
          refine ⟨rfl, t2.sm u3 (by simp), fun w14 hO14 => ⟨fun k => k ∈ [k0, g], by simp, _, y1, by simp, _, y2 w14 (hO14.blk (z2m t2 u3 hB2) (by simp)), by simp, ?_⟩⟩
          have t14 := t13.q hO14
          refine (pname_c t14.toQz bb.nm (by omega)).mono ?_
          rintro _ w15 ⟨rfl, st15, v1, v2, v3⟩
          have t15 := t14.nx v2 v3.up
          refine ⟨_, rfl, t14.sm v3 (by simp), Keeps.of (t14.sm v3 (by simp)), (pname_c t15.toQz bb.dft (by omega)).mono ?_⟩
          rintro _ w16 ⟨rfl, st16, x1, x2, x3⟩
          have t16 := t15.nx x2 x3.up
          have hjl := joinM_len [kW bb.k, bb.nm, [45, 62], bb.dft ++ [59]]
          simp only [List.map_cons, List.map_nil, List.sum_cons, List.sum_nil, List.length_cons, List.length_nil, List.length_append] at hjl
          obtain ⟨q17, w17, e17, hO17, hj17⟩ := lineB t16.toQz [kW bb.k, bb.nm, [45, 62], bb.dft ++ [59]] (n := 4) (parts := #[.mk 0 (.string (T (kW bb.k))), .mk 1 (.string (T bb.nm)), .mk 2 (.string (T [45, 62])), .mk 3 (.string (T (bb.dft ++ [59])))]) rfl rfl (by decide) (by decide) d hd (by omega)
          refine ⟨T bb.dft, rfl, t15.sm x3 (by simp), Keeps.of (t15.sm x3 (by simp)), by rw [T_size]; omega, q17, w17, by rw [show ByteArray.mk #[59] = T [59] from rfl, T_app]; exact e17, t16.sq hO17 (by simp), Keeps.of (t16.sq hO17 (by simp)), hj17.mono ?_⟩
          rintro _ w18 ⟨rfl, y3, y4⟩
          have t18 := t16.nx y3 y4
          have hU := ((u1.tr v1).tr x1).cg (node_hi hk hd12) rfl
          refine ⟨rfl, t16.sl hO17 y4 (by simp), Keeps.of (t16.sl hO17 y4 (by simp)), rfl, st16, _, hU.more fun hok => ?_, fun e => ?_, t18.toQz, t18.m⟩
          · rw [<- node_hi hk hd12] at hok
            simp only [Bool.and_eq_true, decide_eq_true_eq] at hok
            obtain ⟨⟨⟨_, e1, e2, e3, e4⟩, _⟩, _⟩ := hok
            rw [nAc, e4, nAcs]
            unfold nbA
            rw [e1, e2, e3]
            rfl
          · have hh : hist bb.k = true := by unfold hist; exact decide_eq_true hk
            have hne2 : ne (bb.dft ++ [59]) = true := by
             have : bb.dft ++ [59] ≠ [] := by simp
             unfold ne
             rw [decide_eq_false this]
             rfl
            rw [ndL, hh, if_pos rfl, e, if_neg (by decide), putLs_one, join2 (kW_ne _), fl_cons (name_ne (v1.ok (x1.ok e).1).2.1), fl_cons (by rfl), fl_cons hne2, List.filter_nil, jt_cons, jt_cons, jt_cons, jt_nil, List.append_nil]
            rfl
        · have hnk2 := of_decide_eq_false hc5
          refine (pmust_c t2.toQz false).mono ?_
          rintro _ w13 ⟨rfl, st13, u1, u2, u3⟩
          have t13 := t2.nx u2 u3.up
          exact ⟨rfl, t2.sm u3 (by simp), rfl, bad (by rw [u1.w]; simp) ⟨t13.toQz, t13.m, fun k hk => t13.k k (by simp at hk; simp [hk])⟩ (.inr (node_no (.inl (by omega))))⟩
      · have : bb.k = 3 := by simpa using hc4
        rw [hc4, decide_eq_true (.inl this)]
      · have : bb.k ≠ 3 := by simpa using hc4
        rw [Bool.eq_iff_iff]
        simp [this]
  · have : bb.k = 1 := by simpa using hc1
    rw [hc1, decide_eq_true (.inl this)]
  · have : bb.k ≠ 1 := by simpa using hc1
    rw [Bool.eq_iff_iff]
    simp [this]
end Go.Proofs.YtndkfaaeeojeiaaGreatDoor.Con
