/-
  Own work: tokens that are alike but for places are read as charts that are alike but for places, with the same fault. No program in sight.
-/
import Derived.Test.YtmanockofcopjaaGreatDoorSynE
import Derived.Test.YtmanockofcopjaaGreatDoorSTx
namespace Go.Proofs.YtmanockofcopjaaGreatDoor.Con
open Go Go.RowKit Go.Kt Go.Kt.V
set_option linter.unusedSimpArgs false
set_option linter.unusedVariables false
set_option maxHeartbeats 4000000

/-! ## rows and trees -/
theorem Row2.nil {α : Type} {R : α → α → Prop} : Row2 R [] [] := ⟨rfl, fun i x y hx _ => by simp at hx⟩
theorem Row2.snoc {α : Type} {R : α → α → Prop} {xs ys : List α} {x y : α} (h : Row2 R xs ys) (k : R x y) : Row2 R (xs ++ [x]) (ys ++ [y]) := by
  refine ⟨by simp [h.1], fun i a b ha hb => ?_⟩
  have hl := h.1
  rcases Nat.lt_trichotomy i xs.length with hi | hi | hi
  · rw [List.getElem?_append_left hi] at ha
    rw [List.getElem?_append_left (by omega)] at hb
    exact h.2 i a b ha hb
  · rw [List.getElem?_append_right (by omega), show i - xs.length = 0 by omega] at ha
    rw [List.getElem?_append_right (by omega), show i - ys.length = 0 by omega] at hb
    simp only [List.getElem?_cons_zero, Option.some.injEq] at ha hb
    subst ha hb
    exact k
  · rw [List.getElem?_eq_none (by simp; omega)] at ha
    cases ha
inductive Si : Ex → Ex → Prop
  | leaf (k n : Int) (s : List UInt8) (op a b : Int) : Si (.mk k n s op [] a) (.mk k n s op [] b)
  | one (k n : Int) (s : List UInt8) (op a b : Int) (x y : Ex) : Si x y → Si (.mk k n s op [x] a) (.mk k n s op [y] b)
  | two (k n : Int) (s : List UInt8) (op a b : Int) (x y x' y' : Ex) : Si x x' → Si y y' → Si (.mk k n s op [x, y] a) (.mk k n s op [x', y'] b)
theorem Si.same {x y : Ex} (h : Si x y) : ∀ d, sameM false d x y = true := by
  have hd : ∀ {k n : Int} {s : List UInt8} {op : Int} {xs ys : List Ex} {a b : Int}, xs.length = ys.length → diffM false (.mk k n s op xs a) (.mk k n s op ys b) = false := fun h => by
    simp [diffM, Ex.k, Ex.n, Ex.s, Ex.op, Ex.subs, Ex.a, h]
  induction h with
  | leaf k n s op a b =>
    intro d
    cases d with
    | zero => rfl
    | succ d => rw [sameM, if_neg (by rw [hd rfl]; decide)]; rfl
  | one k n s op a b x y h ih =>
    intro d
    cases d with
    | zero => rfl
    | succ d =>
      rw [sameM, if_neg (by rw [hd (xs := [x]) (ys := [y]) rfl]; decide)]
      simp only [Ex.subs, all2, ih d, Bool.and_true]
  | two k n s op a b x y x' y' h1 h2 ih1 ih2 =>
    intro d
    cases d with
    | zero => rfl
    | succ d =>
      rw [sameM, if_neg (by rw [hd (xs := [x, y]) (ys := [x', y']) rfl]; decide)]
      simp only [Ex.subs, all2, ih1 d, ih2 d, Bool.and_true]
theorem si0 : Si ex0 ex0 := .leaf ..

/-! ## tokens that are alike -/
structure Al (ts ts' : List Tk) : Prop where
  len : ts'.length = ts.length
  e : ∀ i, (tk ts' i).k = (tk ts i).k ∧ (tk ts' i).t = (tk ts i).t ∧ (tk ts' i).n = (tk ts i).n
theorem al_of {ts ts' : List Tk} (h : ts'.map k3 = ts.map k3) : Al ts ts' where
  len := by
    have := congrArg List.length h
    simpa using this
  e i := by
    have := k3_at h i
    simp only [k3, Prod.mk.injEq] at this
    exact this
/-- results of reading an expression that are alike -/
inductive RA : Pr → Pr → Prop
  | ok (x x' : Ex) (j : Nat) : Si x x' → RA (.ok (x, j)) (.ok (x', j))
  | err (c a a' : Int) : RA (.error (c, a)) (.error (c, a'))
section
variable {ts ts' : List Tk}
theorem Al.k (h : Al ts ts') (i : Nat) : (tk ts' i).k = (tk ts i).k := (h.e i).1
theorem Al.t (h : Al ts ts') (i : Nat) : (tk ts' i).t = (tk ts i).t := (h.e i).2.1
theorem Al.n (h : Al ts ts') (i : Nat) : (tk ts' i).n = (tk ts i).n := (h.e i).2.2
theorem Al.sg (h : Al ts ts') (i : Nat) (s : List UInt8) : sg ts' i s = sg ts i s := by unfold Con.sg; rw [h.k, h.t]
theorem Al.opf (h : Al ts ts') (k : Int) (i : Nat) : ∀ (f op : Nat), opFrom ts' k i f op = opFrom ts k i f op
  | 0, _ => rfl
  | f + 1, op => by rw [opFrom, opFrom, h.sg, h.opf k i f]
theorem Al.op (h : Al ts ts') (k : Int) (i : Nat) : opAt ts' k i = opAt ts k i := h.opf k i 13 1
theorem RA.wrong (h : Al ts ts') (i : Nat) : RA (.error (wrongF ts i)) (.error (wrongF ts' i)) := by
  unfold wrongF
  rw [h.k]
  exact .err ..
theorem RA.map {r r' : Pr} (h : RA r r') {g g' : Ex → Ex} (hg : ∀ x x', Si x x' → Si (g x) (g' x')) : RA (mapR g r) (mapR g' r') := by
  cases h with
  | ok x x' j hx => exact .ok _ _ _ (hg _ _ hx)
  | err c a a' => exact .err ..
theorem RA.and {r r' : Pr} {f f' : Ex → Nat → Pr} (h : RA r r') (hf : ∀ x x' j, Si x x' → RA (f x j) (f' x' j)) : RA (andR r f) (andR r' f') := by
  cases h with
  | ok x x' j hx => exact hf _ _ _ hx
  | err c a a' => exact .err ..
theorem RA.nest {r r' : Pr} {d : Nat} {a a' : Int} (h : RA r r') : RA (nestR d a r) (nestR d a' r') := by
  unfold nestR
  split
  · exact .err ..
  · exact h
theorem RA.par (hA : Al ts ts') {r r' : Pr} (h : RA r r') : RA (parR ts r) (parR ts' r') := by
  cases h with
  | ok x x' j hx =>
    simp only [parR]
    rw [hA.sg]
    split
    · exact .ok _ _ _ hx
    · exact .wrong hA _
  | err c a a' => exact .err ..
theorem RA.in_ (hA : Al ts ts') (i : Nat) : RA (inR ts i) (inR ts' i) := by
  unfold inR
  rw [hA.sg, hA.k, hA.sg, hA.t]
  split
  · split
    · split
      · exact .ok _ _ _ (.leaf ..)
      · exact .wrong hA _
    · exact .wrong hA _
  · exact .wrong hA _
theorem RA.one (hA : Al ts ts') {E0 One E0' One' : Nat → Pr} {d i : Nat} (hE : ∀ i, RA (E0 i) (E0' i)) (hO : ∀ i, RA (One i) (One' i)) : RA (oneR ts E0 One d i) (oneR ts' E0' One' d i) := by
  unfold oneR
  rw [hA.sg, hA.sg, hA.sg, hA.k, hA.t, hA.n]
  split
  · exact RA.map (RA.nest (hO _)) fun x x' hx => .one _ _ _ _ _ _ _ _ hx
  · split
    · exact RA.nest (RA.par hA (hE _))
    · split
      · exact .ok _ _ _ (.leaf ..)
      · split
        · exact .ok _ _ _ (.leaf ..)
        · split
          · exact RA.in_ hA i
          · exact .wrong hA _
theorem RA.loop (hA : Al ts ts') {E E' : Nat → Pr} {k : Int} (hE : ∀ i, RA (E i) (E' i)) : ∀ (g : Nat) (x x' : Ex) (j : Nat), Si x x' → RA (loopR ts E k g x j) (loopR ts' E' k g x' j)
  | 0, _, _, _, hs => .ok _ _ _ hs
  | g + 1, x, x', j, hs => by
    rw [loopR, loopR, hA.op]
    split
    · exact .ok _ _ _ hs
    · exact RA.and (hE _) fun y y' m hy => RA.loop hA hE g _ _ m (.two _ _ _ _ _ _ _ _ _ _ hs hy)
theorem RA.expr (hA : Al ts ts') : ∀ (f k d i : Nat), RA (exprR ts f k d i) (exprR ts' f k d i)
  | 0, _, _, _ => .err ..
  | f + 1, k, d, i => by
    rw [exprR, exprR, hA.len]
    split
    · exact RA.one hA (RA.expr hA f 0 (d + 1)) (RA.expr hA f 6 (d + 1))
    · exact RA.and (RA.expr hA f (k + 1) d i) fun x x' j hx => RA.loop hA (RA.expr hA f (k + 1) d) _ _ _ _ hx
theorem endN_al : ∀ (ts ts' : List Tk), ts'.length = ts.length → (∀ i, (tk ts' i).k = (tk ts i).k) → endN ts' = endN ts
  | [], [], _, _ => rfl
  | [], _ :: _, h, _ => by simp at h
  | _ :: _, [], h, _ => by simp at h
  | t :: ts, t' :: ts', h, he => by
    have h0 : t'.k = t.k := he 0
    have ih := endN_al ts ts' (by simpa using h) fun i => by
      have := he (i + 1)
      rwa [tk_cons_s, tk_cons_s] at this
    unfold endN at ih ⊢
    rw [List.takeWhile_cons, List.takeWhile_cons, h0]
    split
    · rw [List.length_cons, List.length_cons, ih]
    · rfl
theorem Al.endN (hA : Al ts ts') : endN ts' = endN ts := endN_al ts ts' hA.len hA.k
theorem Al.parse (hA : Al ts ts') (a : Int) : Si (parseA ts a).1 (parseA ts' a).1 ∧ (parseA ts' a).2.1 = (parseA ts a).2.1 ∧ (parseA ts' a).2.2.1 = (parseA ts a).2.2.1 := by
  unfold parseA
  rw [hA.len, hA.endN]
  split
  · have h := RA.expr hA (need 0 0) 0 0 a.toNat
    unfold parseR
    revert h
    generalize exprR ts (need 0 0) 0 0 a.toNat = r
    generalize exprR ts' (need 0 0) 0 0 a.toNat = r'
    intro h
    cases h with
    | ok x x' j hx => exact ⟨hx, rfl, rfl⟩
    | err c a a' => exact ⟨si0, rfl, rfl⟩
  · exact ⟨si0, rfl, rfl⟩

/-! ## readers that are alike -/
def Sa (s s' : Sx) : Prop := ∃ b, s' = { s with fa := b }
variable {s s' : Sx}
theorem Sa.refl (s : Sx) : Sa s s := ⟨s.fa, rfl⟩
theorem Sa.i (h : Sa s s') : s'.i = s.i := by obtain ⟨b, rfl⟩ := h; rfl
theorem Sa.fc (h : Sa s s') : s'.fc = s.fc := by obtain ⟨b, rfl⟩ := h; rfl
theorem stop_a (c : Int) (h : Sa s s') : Sa (stopS ts s c) (stopS ts' s' c) := by
  obtain ⟨b, rfl⟩ := h
  unfold stopS
  by_cases e : s.fc = 0
  · rw [if_pos e, if_pos e]; exact ⟨_, rfl⟩
  · rw [if_neg e, if_neg e]; exact ⟨_, rfl⟩
theorem wrong_a (hA : Al ts ts') (h : Sa s s') : Sa (wrongS ts s) (wrongS ts' s') := by
  unfold wrongS
  rw [h.i, hA.k]
  split
  · exact stop_a _ (stop_a _ h)
  · exact stop_a _ h
theorem which_a (hA : Al ts ts') (h : Sa s s') (l : List (List UInt8)) : whichS ts' s' l = whichS ts s l := by
  unfold whichS
  rw [h.i, h.fc, hA.k, hA.t]
theorem next_a (h : Sa s s') : Sa (nextS s) (nextS s') := by
  obtain ⟨b, rfl⟩ := h
  exact ⟨_, rfl⟩
theorem must_a (hA : Al ts ts') (x : List UInt8) (h : Sa s s') : Sa (mustS ts s x) (mustS ts' s' x) := by
  unfold mustS
  rw [which_a hA h]
  split
  · exact wrong_a hA h
  · exact next_a h
theorem kind_a (hA : Al ts ts') (k : Int) (h : Sa s s') : (kindS ts' s' k).1.t = (kindS ts s k).1.t ∧ (kindS ts' s' k).1.n = (kindS ts s k).1.n ∧ Sa (kindS ts s k).2 (kindS ts' s' k).2 := by
  unfold kindS
  rw [h.fc, h.i, hA.k]
  split
  · exact ⟨rfl, rfl, wrong_a hA h⟩
  · exact ⟨hA.t _, hA.n _, next_a h⟩
theorem name_a (hA : Al ts ts') (h : Sa s s') : (nameS ts' s').1 = (nameS ts s).1 ∧ Sa (nameS ts s).2 (nameS ts' s').2 := ⟨(kind_a hA 1 h).1, (kind_a hA 1 h).2.2⟩
theorem expr_a (hA : Al ts ts') (h : Sa s s') : ExE false (exprS ts s).1 (exprS ts' s').1 ∧ Sa (exprS ts s).2 (exprS ts' s').2 := by
  unfold exprS
  obtain ⟨p1, p2, p3⟩ := hA.parse (s.i : Int)
  rw [h.fc, h.i, p3, p2]
  split
  · exact ⟨ExE.refl _ _, h⟩
  · obtain ⟨b, rfl⟩ := h
    split
    · exact ⟨p1.same, _, rfl⟩
    · exact ⟨p1.same, _, rfl⟩
theorem useA_a (h : Sa s s') : Sa (useA ts s) (useA ts' s') := by
  obtain ⟨b, rfl⟩ := h
  unfold useA
  by_cases e : s.a = 0
  · rw [if_pos e, if_pos e]
    obtain ⟨c, hc⟩ := stop_a (ts := ts) (ts' := ts') (s := s) 2 ⟨b, rfl⟩
    exact ⟨c, by rw [hc]⟩
  · rw [if_neg e, if_neg e]
    exact ⟨b, rfl⟩
theorem useM_a (h : Sa s s') : Sa (useM ts s) (useM ts' s') := by
  obtain ⟨b, rfl⟩ := h
  unfold useM
  by_cases e : s.m = 0
  · rw [if_pos e, if_pos e]
    obtain ⟨c, hc⟩ := stop_a (ts := ts) (ts' := ts') (s := s) 2 ⟨b, rfl⟩
    exact ⟨c, by rw [hc]⟩
  · rw [if_neg e, if_neg e]
    exact ⟨b, rfl⟩
theorem useN_a (h : Sa s s') : Sa (useN ts s) (useN ts' s') := by
  obtain ⟨b, rfl⟩ := h
  unfold useN
  by_cases e : s.n = 0
  · rw [if_pos e, if_pos e]
    obtain ⟨c, hc⟩ := stop_a (ts := ts) (ts' := ts') (s := s) 2 ⟨b, rfl⟩
    exact ⟨c, by rw [hc]⟩
  · rw [if_neg e, if_neg e]
    exact ⟨b, rfl⟩
theorem useV_a (h : Sa s s') : Sa (useV ts s) (useV ts' s') := by
  obtain ⟨b, rfl⟩ := h
  unfold useV
  by_cases e : s.v = 0
  · rw [if_pos e, if_pos e]
    obtain ⟨c, hc⟩ := stop_a (ts := ts) (ts' := ts') (s := s) 2 ⟨b, rfl⟩
    exact ⟨c, by rw [hc]⟩
  · rw [if_neg e, if_neg e]
    exact ⟨b, rfl⟩
theorem nof {p : Prop} : false = true → p := fun h => by cases h
theorem actT_a (hA : Al ts ts') (h : Sa s s') (k : Nat) (n : List UInt8) (a a' : Int) : AcE false (actT ts s k n a).1 (actT ts' s' k n a').1 ∧ Sa (actT ts s k n a).2 (actT ts' s' k n a').2 := by
  unfold actT
  split
  · exact ⟨⟨rfl, rfl, ExE.refl _ _, nof⟩, must_a hA _ h⟩
  · have he := expr_a hA (must_a hA [61] h)
    exact ⟨⟨rfl, rfl, he.1, nof⟩, must_a hA _ he.2⟩
theorem act_a (hA : Al ts ts') (h : Sa s s') : AcE false (actS ts s).1 (actS ts' s').1 ∧ Sa (actS ts s).2 (actS ts' s').2 := by
  unfold actS
  have hu := useA_a (ts := ts) (ts' := ts') h
  rw [which_a hA h, hu.fc]
  split
  · exact ⟨⟨rfl, rfl, ExE.refl _ _, nof⟩, wrong_a hA h⟩
  · split
    · exact ⟨⟨rfl, rfl, ExE.refl _ _, nof⟩, hu⟩
    · have hn := name_a hA (next_a hu)
      rw [hn.1]
      exact actT_a hA hn.2 _ _ _ _
theorem acts_a (hA : Al ts ts') : ∀ (f : Nat) {acc acc' : List Ac} {s s' : Sx}, Row2 (AcE false) acc acc' → Sa s s' → Row2 (AcE false) (actsS ts f acc s).1 (actsS ts' f acc' s').1 ∧ Sa (actsS ts f acc s).2 (actsS ts' f acc' s').2
  | 0, _, _, _, _, h, k => ⟨h, k⟩
  | f + 1, acc, acc', s, s', h, k => by
    rw [actsS, actsS, k.fc, which_a hA k]
    split
    · exact ⟨h, k⟩
    · split
      · exact ⟨h, next_a k⟩
      · have ha := act_a hA k
        exact acts_a hA f (h.snoc ha.1) ha.2
theorem block_a (hA : Al ts ts') (h : Sa s s') : Row2 (AcE false) (blockS ts s).1 (blockS ts' s').1 ∧ Sa (blockS ts s).2 (blockS ts' s').2 := by
  unfold blockS
  rw [hA.len]
  exact acts_a hA _ .nil (must_a hA _ h)
theorem targ_a (hA : Al ts ts') : ∀ (f : Nat) (x : List UInt8) (acc : List (List UInt8)) {s s' : Sx}, Sa s s' → (targS ts' f x acc s').1 = (targS ts f x acc s).1 ∧ Sa (targS ts f x acc s).2 (targS ts' f x acc s').2
  | 0, _, _, _, _, k => ⟨rfl, k⟩
  | f + 1, x, acc, s, s', k => by
    rw [targS, targS, which_a hA k]
    split
    · exact ⟨rfl, k⟩
    · have hn := name_a hA (next_a k)
      rw [hn.1]
      exact targ_a hA f _ _ hn.2
variable {m m' : Mv}
theorem moveC_a (hA : Al ts ts') (hm : MvE false m m') (h : Sa s s') : MvE false (moveC ts m s).1 (moveC ts' m' s').1 ∧ Sa (moveC ts m s).2 (moveC ts' m' s').2 := by
  unfold moveC
  rw [hA.len]
  have ht := targ_a hA (ts.length + 1) [45, 62] [] h
  exact ⟨⟨hm.k, hm.ev, hm.wt, hm.gd, hm.g, hm.acts, ht.1.symm, nof⟩, must_a hA _ ht.2⟩
theorem moveB_a (hA : Al ts ts') (hm : MvE false m m') (h : Sa s s') : MvE false (moveB ts m s).1 (moveB ts' m' s').1 ∧ Sa (moveB ts m s).2 (moveB ts' m' s').2 := by
  unfold moveB
  rw [which_a hA h]
  split
  · exact moveC_a hA hm h
  · have hb := block_a hA h
    exact moveC_a hA ⟨hm.k, hm.ev, hm.wt, hm.gd, hm.g, hb.1, hm.tg, nof⟩ hb.2
theorem moveA_a (hA : Al ts ts') (hm : MvE false m m') (h : Sa s s') : MvE false (moveA ts m s).1 (moveA ts' m' s').1 ∧ Sa (moveA ts m s).2 (moveA ts' m' s').2 := by
  unfold moveA
  rw [which_a hA h]
  split
  · exact moveB_a hA hm h
  · have he := expr_a hA (next_a h)
    exact moveB_a hA ⟨hm.k, hm.ev, hm.wt, rfl, he.1, hm.acts, hm.tg, nof⟩ (must_a hA _ he.2)
theorem move_a (hA : Al ts ts') (k : Int) (h : Sa s s') : MvE false (moveS ts k s).1 (moveS ts' k s').1 ∧ Sa (moveS ts k s).2 (moveS ts' k s').2 := by
  have hu := useM_a (ts := ts) (ts' := ts') h
  have h0 : ∀ a a' : Int, MvE false (mv0 k a) (mv0 k a') := fun a a' => ⟨rfl, rfl, rfl, rfl, ExE.refl _ _, .nil, rfl, nof⟩
  unfold moveS
  rw [hu.fc]
  split
  · exact ⟨h0 _ _, hu⟩
  · split
    · have hn := name_a hA (next_a hu)
      rw [hn.1]
      exact moveA_a hA ⟨rfl, rfl, rfl, rfl, ExE.refl _ _, .nil, rfl, nof⟩ hn.2
    · split
      · have hn := kind_a hA 3 (next_a hu)
        rw [hn.2.1]
        exact moveA_a hA ⟨rfl, rfl, rfl, rfl, ExE.refl _ _, .nil, rfl, nof⟩ hn.2.2
      · exact moveA_a hA (h0 _ _) (next_a hu)
structure ClE (p q : Bool × Nb × Had × Sx) : Prop where
  b : q.1 = p.1
  n : NbE false p.2.1 q.2.1
  h : q.2.2.1 = p.2.2.1
  s : Sa p.2.2.2 q.2.2.2
theorem clause_a (hA : Al ts ts') {n n' : Nb} (hn : NbE false n n') (hd : Had) (h : Sa s s') : ClE (clauseS ts n hd s) (clauseS ts' n' hd s') := by
  unfold clauseS
  rw [which_a hA h, which_a hA h]
  split
  · have hm := move_a hA (whichS ts s [wOn, wAlways, wAfter] : Nat) h
    exact ⟨rfl, ⟨hn.k, hn.nm, hn.ini, hn.dft, hn.en, hn.lv, hn.mv.snoc hm.1, nof⟩, rfl, hm.2⟩
  · split
    · exact ⟨rfl, hn, rfl, h⟩
    · split
      · exact ⟨rfl, hn, rfl, wrong_a hA h⟩
      · have hm := name_a hA (next_a h)
        exact ⟨rfl, ⟨hn.k, hn.nm, hm.1.symm, hn.dft, hn.en, hn.lv, hn.mv, nof⟩, rfl, must_a hA _ hm.2⟩
    · split
      · exact ⟨rfl, hn, rfl, wrong_a hA h⟩
      · have hm := block_a hA (next_a h)
        exact ⟨rfl, ⟨hn.k, hn.nm, hn.ini, hn.dft, hm.1, hn.lv, hn.mv, nof⟩, rfl, hm.2⟩
    · split
      · exact ⟨rfl, hn, rfl, wrong_a hA h⟩
      · have hm := block_a hA (next_a h)
        exact ⟨rfl, ⟨hn.k, hn.nm, hn.ini, hn.dft, hn.en, hm.1, hn.mv, nof⟩, rfl, hm.2⟩
theorem clauses_a (hA : Al ts ts') : ∀ (f : Nat) {n n' : Nb} (hd : Had) {s s' : Sx}, NbE false n n' → Sa s s' → NbE false (clausesS ts f n hd s).1 (clausesS ts' f n' hd s').1 ∧ Sa (clausesS ts f n hd s).2 (clausesS ts' f n' hd s').2
  | 0, _, _, _, _, _, h, k => ⟨h, k⟩
  | f + 1, n, n', hd, s, s', h, k => by
    have hc := clause_a hA h hd k
    rw [clausesS, clausesS, k.fc, hc.b, hc.h]
    split
    · exact ⟨h, k⟩
    · split
      · exact clauses_a hA f _ hc.n hc.s
      · exact ⟨hc.n, hc.s⟩
def NdS (x y : Nd) : Prop := ∀ d, NdE false d x y
theorem nds_mk {b b' : Nb} {l l' : List Nd} (h : NbE false b b') (k : Row2 NdS l l') : NdS (.mk b l) (.mk b' l') := fun d => by
  cases d with
  | zero => trivial
  | succ d => exact ⟨h, k.1, fun i x y hx hy => k.2 i x y hx hy d⟩
theorem kids_a (hA : Al ts ts') {N N' : Int → Sx → Nd × Sx} (hN : ∀ k {s s' : Sx}, Sa s s' → NdS (N k s).1 (N' k s').1 ∧ Sa (N k s).2 (N' k s').2) : ∀ (f : Nat) {acc acc' : List Nd} {s s' : Sx}, Row2 NdS acc acc' → Sa s s' → Row2 NdS (kidsS ts N f acc s).1 (kidsS ts' N' f acc' s').1 ∧ Sa (kidsS ts N f acc s).2 (kidsS ts' N' f acc' s').2
  | 0, _, _, _, _, h, k => ⟨h, k⟩
  | f + 1, acc, acc', s, s', h, k => by
    rw [kidsS, kidsS, which_a hA k]
    split
    · exact ⟨h, k⟩
    · have ha := hN (whichS ts s wKinds : Nat) (next_a k)
      exact kids_a hA hN f (h.snoc ha.1) ha.2
theorem depth_a (d : Int) (h : Sa s s') : Sa { s with d := d } { s' with d := d } := by
  obtain ⟨b, rfl⟩ := h
  exact ⟨b, rfl⟩
theorem Sa.d (h : Sa s s') : s'.d = s.d := by obtain ⟨b, rfl⟩ := h; rfl
theorem body_a (hA : Al ts ts') {N N' : Int → Sx → Nd × Sx} (hN : ∀ k {s s' : Sx}, Sa s s' → NdS (N k s).1 (N' k s').1 ∧ Sa (N k s).2 (N' k s').2) {n n' : Nb} (hn : NbE false n n') (h : Sa s s') : NdS (bodyS ts N n s).1 (bodyS ts' N' n' s').1 ∧ Sa (bodyS ts N n s).2 (bodyS ts' N' n' s').2 := by
  unfold bodyS
  rw [hA.len, h.d]
  dsimp only
  have hc := clauses_a hA (ts.length + 1) ⟨false, false, false⟩ hn (depth_a (dec s.d) h)
  have hk := kids_a hA hN (ts.length + 1) .nil hc.2
  rw [hk.2.d]
  exact ⟨nds_mk hc.1 hk.1, must_a hA _ (depth_a _ hk.2)⟩
theorem room_a (hA : Al ts ts') (h : Sa s s') : Sa (roomS ts s) (roomS ts' s') := by
  have hu := useN_a (ts := ts) (ts' := ts') h
  unfold roomS
  rw [h.i, hA.k, hu.d]
  split
  · split
    · exact stop_a _ hu
    · exact hu
  · exact h
theorem named_a (hA : Al ts ts') (k : Int) (h : Sa s s') : NbE false (namedS ts k s).1 (namedS ts' k s').1 ∧ Sa (namedS ts k s).2 (namedS ts' k s').2 := by
  have hk := kind_a hA 1 (room_a hA h)
  exact ⟨⟨rfl, hk.1.symm, rfl, rfl, .nil, .nil, .nil, nof⟩, hk.2.2⟩
theorem node_a (hA : Al ts ts') : ∀ (f : Nat) (k : Int) {s s' : Sx}, Sa s s' → NdS (nodeS ts f k s).1 (nodeS ts' f k s').1 ∧ Sa (nodeS ts f k s).2 (nodeS ts' f k s').2
  | 0, _, _, _, h => ⟨fun d => NdE.refl _ d _, h⟩
  | f + 1, k, s, s', h => by
    have hn := named_a hA k h
    rw [nodeS, nodeS]
    split
    · have hm := name_a hA (must_a hA [45, 62] hn.2)
      rw [hm.1]
      exact ⟨nds_mk ⟨hn.1.k, hn.1.nm, hn.1.ini, rfl, hn.1.en, hn.1.lv, hn.1.mv, nof⟩ .nil, must_a hA _ hm.2⟩
    · exact body_a hA (fun k _ _ h => node_a hA f k h) hn.1 (must_a hA _ hn.2)
theorem var_a (hA : Al ts ts') (h : Sa s s') : VrE false (varS ts s).1 (varS ts' s').1 ∧ Sa (varS ts s).2 (varS ts' s').2 := by
  have h1 : Sa (if (tk ts s.i).k = 1 then useV ts s else s) (if (tk ts' s'.i).k = 1 then useV ts' s' else s') := by
    rw [h.i, hA.k]
    split
    · exact useV_a h
    · exact h
  unfold varS
  dsimp only
  have ht := kind_a hA 1 h1
  have h2 := must_a hA [61] ht.2.2
  have hq0 : ∀ {p q : Sx}, Sa p q → Sa (if whichS ts p [[45]] = 0 then p else nextS p) (if whichS ts p [[45]] = 0 then q else nextS q) := fun {p q} h => by
    by_cases e : whichS ts p [[45]] = 0
    · rw [if_pos e, if_pos e]; exact h
    · rw [if_neg e, if_neg e]; exact next_a h
  have h3 := hq0 h2
  rw [which_a hA h2]
  have hq := kind_a hA 3 h3
  exact ⟨⟨ht.1.symm, by dsimp only; rw [hq.2.1], nof⟩, must_a hA _ hq.2.2⟩
theorem vars_a (hA : Al ts ts') : ∀ (f : Nat) {acc acc' : List Vr} {s s' : Sx}, Row2 (VrE false) acc acc' → Sa s s' → Row2 (VrE false) (varsS ts f acc s).1 (varsS ts' f acc' s').1 ∧ Sa (varsS ts f acc s).2 (varsS ts' f acc' s').2
  | 0, _, _, _, _, h, k => ⟨h, k⟩
  | f + 1, acc, acc', s, s', h, k => by
    rw [varsS, varsS, which_a hA k]
    split
    · exact ⟨h, k⟩
    · have ha := var_a hA (next_a k)
      exact vars_a hA f (h.snoc ha.1) ha.2
theorem end_a (hA : Al ts ts') (h : Sa s s') : Sa (endS ts s) (endS ts' s') := by
  unfold endS
  rw [h.fc, h.i, hA.k]
  split
  · exact wrong_a hA h
  · exact h
theorem chart_a (hA : Al ts ts') : (∀ d, ChE false d (chartS ts).1 (chartS ts').1) ∧ Sa (chartS ts).2 (chartS ts').2 := by
  unfold chartS
  dsimp only
  rw [hA.len]
  have hn := named_a hA 1 (must_a hA wChart (Sa.refl sx0))
  have hv := vars_a hA (ts.length + 1) .nil (must_a hA [123] hn.2)
  have hb := body_a hA (fun k _ _ h => node_a hA 14 k h) hn.1 hv.2
  exact ⟨fun d => ⟨hv.1, hb.1 d⟩, end_a hA hb.2⟩
end
theorem parseC_ok {l : List UInt8} (h0 : (tokensM l).2.1 = 0) : parseC l = if (chartS (tokensM l).1).2.fc ≠ 0 then (ch0, (chartS (tokensM l).1).2.fc, (chartS (tokensM l).1).2.fa) else ((chartS (tokensM l).1).1, 0, 0) := by
  unfold parseC
  rw [if_neg (fun h => h h0)]
/-- texts whose tokens are alike but for places are read alike -/
theorem parse_a {l l' : List UInt8} (h0 : (tokensM l).2.1 = 0) (h0' : (tokensM l').2.1 = 0) (hA : Al (tokensM l).1 (tokensM l').1) : (∀ d, ChE false d (parseC l).1 (parseC l').1) ∧ (parseC l').2.1 = (parseC l).2.1 := by
  obtain ⟨h1, h2⟩ := chart_a hA
  rw [parseC_ok h0, parseC_ok h0', h2.fc]
  by_cases e : (chartS (tokensM l).1).2.fc ≠ 0
  · rw [if_pos e, if_pos e]; exact ⟨fun d => ChE.refl _ d _, rfl⟩
  · rw [if_neg e, if_neg e]; exact ⟨h1, rfl⟩
end Go.Proofs.YtmanockofcopjaaGreatDoor.Con
