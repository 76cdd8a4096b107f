import Derived.Test.YtndkfaaeeojeiaaGreatDoorQ5
set_option linter.unusedSectionVars false
namespace Go.Kt
open Go Go.RowKit Go.ChangeShapes Go.WideShapes
set_option linter.unusedSimpArgs false
set_option linter.unusedVariables false
def rPair {α β : Type} (r : Rp α) (q : Rp β) : Rp (α × β) := fun w F x cs => ∃ c d, cs = c ++ d /\ r w F x.1 c /\ q w F x.2 d
def rUnit : Rp Unit := fun _ _ _ cs => cs = []
def rBool : Rp Bool := fun _ _ b cs => cs = [.bool b]
section
variable {H : Type} {enc : TypeId × Value -> H} {P : Program}
theorem trodAll_stays (hl : laidOutB P = true) {W W' : World} {sp : Nat -> Bool} (hb : Below W.heap.size W W') : ∀ {ts : List TypeId} {vs : List Value} {ds : List (DataW H)} {ps : List MemPlace},
  (∀ t, t ∈ ts -> P.readableRec t = true /\ t < P.types.size) -> DataW.TrodAll enc P W 0 (fun _ => true) true ts vs ds ps -> (∀ x, x ∈ ps -> x.block < W.heap.size) -> (∀ x, x ∈ ps -> sp x.block = true) -> DataW.TrodAll enc P W' 0 sp true ts vs ds ps
 | [], vs, ds, ps, _, h, _, _ => by
  obtain ⟨rfl, rfl, rfl⟩ := trodAll_nil h
  exact trodAll_mk0
 | t :: ts, vs, ds, ps, hr, h, hlt, hsp => by
  obtain ⟨v, vs', d, ds', p, q, rfl, rfl, rfl, h1, h2⟩ := trodAll_cons h
  obtain ⟨r1, r2⟩ := hr t (by simp)
  exact trodAll_cons_mk (WideElems.Trod_stays hl r1 r2 h1 (fun x hx => hb.same (hlt x (by simp [hx]))) fun x hx => hsp x (by simp [hx]))
   (trodAll_stays hl hb (fun u hu => hr u (by simp [hu])) h2 (fun x hx => hlt x (by simp [hx])) fun x hx => hsp x (by simp [hx]))
theorem law_post {f : Func} {s : ChangeSpec} {fresh handsOn again : Bool} {W W' : World} {args : Array Value} {ds gs : List (DataW H)} {before : List MemPlace} {tb : TypeId}
  (hW : DataW.Whole enc P f.params.toList s.vars false W args.toList ds gs before) (hv : s.vars = [])
  (hres : (s.fn H (ds ++ gs)).results = [.lit (.bool true)]) (hargs : (s.fn H (ds ++ gs)).args = ds) (hvs : (s.fn H (ds ++ gs)).vars = [])
  (ht : f.resultTypes = #[tb]) (hu : P.underlying tb = some .bool) (hl : laidOutB P = true) (hread0 : (f.params.toList.all fun t => P.readableRec t && decide (t < P.types.size)) = true) (hO : Only [] W W') :
  s.post enc P f false fresh handsOn again W args (.bool true) W' := by
 have hb : Below W.heap.size W W' := hO.below (Nat.le_refl _) (by simp)
 have hread : ∀ t, t ∈ f.params.toList -> P.readableRec t = true /\ t < P.types.size := fun t ht => by simpa using List.all_eq_true.1 hread0 t ht
 have hlt := fun p hp => hW.lt p hp
 obtain ⟨p, q, hA, hV, rfl, hz, hn⟩ := id hW
 rw [hv] at hV
 obtain ⟨rfl, rfl⟩ := trodVars_none hV
 rw [List.append_nil] at *
 have hA' : ∀ sp : Nat -> Bool, (∀ x ∈ p, sp x.block = true) -> DataW.TrodAll enc P W' 0 sp true f.params.toList args.toList (s.fn H ds).args p := fun sp hsp => by
  rw [hargs]
  exact trodAll_stays hl hb hread hA (fun x hx => by simpa using hlt x hx) hsp
 have hV' : ∀ sp : Nat -> Bool, DataW.TrodVars enc P W' sp s.vars (s.fn H ds).vars [] := fun sp => by
  rw [hv, hvs]
  simp [DataW.TrodVars]
 have hres' : ∀ (b : Nat) (sp : Nat -> Bool) (hd : Bool), DataW.TrodAll enc P W' b sp hd f.resultTypes.toList ((Value.bool true).resultList f.resultTypes.size) (s.fn H ds).results [] := fun b sp hd => by
  rw [hres, ht]
  exact trodAll_cons_mk (shut_bool hu true) trodAll_mk0
 have hold : ∀ x ∈ p, (fun b => decide (b < W.heap.size)) x.block = true := fun x hx => by simpa using hlt x hx
 refine ⟨ds, [], p, [], p, [], hW, by simpa using hres' _ _ _, by simpa using hA' _ hold, by simpa using hV' _, World.keptBut_mono (fun x hx => ⟨hx, by simpa using hx⟩) (hb.frame (· ∈ p)), fun _ => ?_⟩
 refine ⟨ok_one ht rfl (okWide_bool_mk hu true), _, _, ([] ++ p) ++ [], ⟨[] ++ p, [], trodAll_append (hA' _ (fun _ _ => rfl)) (hres' _ _ _), hV' _, rfl, ?_, ?_⟩, ?_⟩
 · intro b off hp
   have hp : MemPlace.cell b off ∈ p := by simpa using hp
   rw [hb.frozen (p := ⟨b, off, none⟩) (hlt _ hp)]
   exact hz b off hp
 · intro ha
   cases ha
 · intro x hp _
   simpa using hp
variable {W : World} {base : Nat} {spare : Nat -> Bool} {held : Bool} {α : Type}
def Opens (enc : TypeId × Value -> H) (P : Program) (W : World) (base : Nat) (spare : Nat -> Bool) (held : Bool) (t : TypeId) (r : Rp α) : Prop :=
 ∀ (fuel : Nat) (cs : List Value) (x : DataW H × List MemPlace), DataW.trod enc P W base spare held fuel t cs = some x -> (∀ n, n ∈ x.1.weights P t -> n <= reachBytes) -> ∃ a : α, r W (fun _ => True) a cs
theorem opens_int {t : TypeId} (ht : P.underlying t = some (.int .i64)) : Opens enc P W base spare held t rInt := fun fuel cs x h _ => by
 obtain ⟨n, rfl, rfl, hw⟩ := DataW.trod_int ht h
 refine ⟨n, rfl, ?_⟩
 simpa [Lit.wf, IntKind.min, IntKind.max, IntKind.signed, IntKind.bits, InI] using hw
def rSl (r : Rp α) (size bytes : Nat) : Rp (List α) := fun w F xs cs => ∃ s : Sl, cs = [s.v] /\ SliceF r size w F s xs /\ xs.length * bytes <= 140737488351232
theorem weightsAll_mem {e : TypeId} : ∀ {l : List (DataW H)} {d : DataW H}, d ∈ l -> ∀ n, n ∈ d.weights P e -> n ∈ DataW.weightsAll P e l
 | d0 :: l, d, hd, n, hn => by
  simp only [DataW.weightsAll, List.mem_append]
  rcases List.mem_cons.1 hd with rfl | hd
  · exact .inl hn
  · exact .inr (weightsAll_mem hd n hn)
 | [], d, hd, _, _ => by simp at hd
theorem choose_list {β : Type} {p : Nat -> β -> Prop} : ∀ (n : Nat), (∀ i, i < n -> ∃ b, p i b) -> ∃ l : List β, l.length = n /\ ∀ i b, l[i]? = some b -> p i b
 | 0, _ => ⟨[], rfl, fun i b h => by simp at h⟩
 | n + 1, h => by
  obtain ⟨l, h1, h2⟩ := choose_list n fun i hi => h i (by omega)
  obtain ⟨b, hb⟩ := h n (by omega)
  refine ⟨l ++ [b], by simp [h1], fun i c hc => ?_⟩
  by_cases hi : i < l.length
  · rw [List.getElem?_append_left hi] at hc; exact h2 i c hc
  · rw [List.getElem?_append_right (by omega)] at hc
    have : i = n := by
     have := (List.getElem?_eq_some_iff.1 hc).1
     simp at this
     omega
    subst this
    simp [h1] at hc
    rw [<- hc]; exact hb
theorem Opens.map {β : Type} {t : TypeId} {r : Rp α} {q : Rp β} (h : Opens enc P W base spare held t r) (f : α -> β) (hf : ∀ a cs, r W (fun _ => True) a cs -> q W (fun _ => True) (f a) cs) : Opens enc P W base spare held t q := fun fuel cs x hx hw => by
 obtain ⟨a, ha⟩ := h fuel cs x hx hw
 exact ⟨f a, hf a cs ha⟩
theorem opens_bool {t : TypeId} (ht : P.underlying t = some .bool) : Opens enc P W base spare held t rBool := fun fuel cs x h _ => by
 obtain ⟨b, rfl, rfl⟩ := DataW.trod_bool ht h
 exact ⟨b, rfl⟩
theorem weights_of {ts : List TypeId} {ds : List (DataW H)} (h : (DataW.weightsEach P ts ds).all (· <= reachBytes) = true) (j : Nat) {t : TypeId} {d : DataW H} (ht : ts[j]? = some t) (hd : ds[j]? = some d) : ∀ n, n ∈ d.weights P t -> n <= reachBytes :=
 fun n hn => by simpa using List.all_eq_true.1 h n (DataW.weights_mem_each ht hd n hn)
end
structure IsBulk {H : Type} (B : DataW H -> Nat) : Prop where
 one : ∀ d, 1 <= B d
 sl : ∀ e s, (e.map B).sum + 1 <= B (.slice e s)
 str : ∀ b, b.length + 1 <= B (.lit (.string b))
 agg : ∀ p, (p.map B).sum + 1 <= B (.agg p)
 ptr : ∀ d, B d + 1 <= B (.ptr d)
 iface : ∀ t d, B d + 1 <= B (.iface t d)
section
variable {H : Type} {enc : TypeId × Value -> H} {P : Program} {W : World} {base : Nat} {spare : Nat -> Bool} {held : Bool} {α β : Type} {B : DataW H -> Nat}
def rStr : Rp ByteArray := fun _ _ s cs => cs = [.string s] /\ s.size <= 140737488351232
def OpensB (B : DataW H -> Nat) (enc : TypeId × Value -> H) (P : Program) (W : World) (base : Nat) (spare : Nat -> Bool) (held : Bool) (t : TypeId) (r : Rp α) (m : α -> Nat) : Prop :=
 ∀ (fuel : Nat) (cs : List Value) (x : DataW H × List MemPlace), DataW.trod enc P W base spare held fuel t cs = some x -> (∀ n, n ∈ x.1.weights P t -> n <= reachBytes) -> ∃ a : α, r W (fun _ => True) a cs /\ m a <= B x.1
theorem opensB_of (hB : IsBulk B) {t : TypeId} {r : Rp α} (h : Opens enc P W base spare held t r) : OpensB B enc P W base spare held t r fun _ => 1 := fun fuel cs x hx hw => by
 obtain ⟨a, ha⟩ := h fuel cs x hx hw
 exact ⟨a, ha, hB.one _⟩
theorem opensB_str (hB : IsBulk B) {t : TypeId} (ht : P.underlying t = some .string) : OpensB B enc P W base spare held t rStr fun s => s.size + 1 := fun fuel cs x h hw => by
 obtain ⟨s, rfl, rfl, hs⟩ := DataW.trod_string ht h
 have h1 := hw _ (by simp only [DataW.weights]; exact List.mem_cons_self)
 have e : s.data.toList.length = s.size := by rw [Array.length_toList]; rfl
 simp only [e, reachBytes] at h1
 refine ⟨s, ⟨rfl, ?_⟩, ?_⟩
 · omega
 · have := hB.str s.data.toList
   rw [e] at this
   exact this
theorem sum_le {p : α -> Nat} {g : Nat -> Nat} : ∀ {l : List α} {o : Nat}, (∀ i b, l[i]? = some b -> p b <= g (o + i)) -> (l.map p).sum <= ((List.range l.length).map fun i => g (o + i)).sum
 | [], _, _ => by simp
 | a :: l, o, h => by
  rw [List.length_cons, List.range_succ_eq_map, List.map_cons, List.map_cons, List.sum_cons, List.sum_cons, List.map_map]
  have h0 := h 0 a rfl
  have ih := sum_le (p := p) (g := g) (l := l) (o := o + 1) fun i b hb => by
   have := h (i + 1) b hb
   rw [show o + 1 + i = o + (i + 1) by omega]
   exact this
  refine Nat.add_le_add h0 (Nat.le_trans ih (Nat.le_of_eq ?_))
  congr 1
  refine List.map_congr_left fun i _ => ?_
  show g _ = g _
  congr 1
  omega
theorem opensB_slice (hB : IsBulk B) {t e : TypeId} {r : Rp α} {m : α -> Nat} {size : Nat} (ht : P.underlying t = some (.slice e)) (hs : P.cellsOf e = size) {bytes : Nat} (hb : P.bytesOf e = bytes) (he : OpensB B enc P W base spare held e r m) :
  OpensB B enc P W base spare held t (rSl r size bytes) fun xs => (xs.map m).sum + 1 := fun fuel cs x h hw => by
 subst hs
 rcases Deep.open_slice ht h with ⟨rfl, rfl⟩ | ⟨a, len, cap, mm, n, D, Pl, rfl, _, hl, hm, hmm, rfl, hel⟩
 · exact ⟨[], ⟨Sl.nil, rfl, SliceF.nil _ _ _ _, by simp⟩, hB.one _⟩
 · have hlm : len <= mm := by rw [hmm]; split <;> omega
   have hex : ∀ i, i < len -> ∃ b : α, (∃ cs', cs'.length = P.cellsOf e /\ Cells W (a.add (i * P.cellsOf e)) cs' /\ r W (fun _ => True) b cs') /\ m b <= B (D i) := fun i hi => by
    obtain ⟨cs', g1, g2⟩ := hel i (by omega)
    obtain ⟨_, g3, g4⟩ := World.cells?_some g1
    obtain ⟨b, g5, g6⟩ := he n cs' _ g2 fun k hk => hw k (by
     simp only [DataW.weights, ht, List.mem_cons, List.mem_append]
     exact .inr (.inl (weightsAll_mem (List.mem_map.2 ⟨i, List.mem_range.2 hi, rfl⟩) k hk)))
    refine ⟨b, ⟨cs', g3, fun j v hj => ?_, g5⟩, g6⟩
    rw [g4 j (by have := (List.getElem?_eq_some_iff.1 hj).1; omega)]
    exact hj
   obtain ⟨l, h1, h2⟩ := choose_list len hex
   refine ⟨l, ⟨⟨some a, len, cap⟩, rfl, ⟨h1.symm, hl, fun h => (by cases h), hm, fun j x hj => ?_⟩, ?_⟩, ?_⟩
   · obtain ⟨⟨cs', g1, g2, g3⟩, _⟩ := h2 j x hj
     exact ⟨a, cs', rfl, trivial, g1, g2, g3⟩
   · have := hw _ (by simp only [DataW.weights, ht]; exact List.mem_cons_self)
     rw [hb] at this
     simp only [List.length_map, List.length_range, reachBytes] at this
     rw [h1]
     have h3 : len * bytes <= (len + (mm - len)) * bytes := Nat.mul_le_mul_right _ (by omega)
     omega
   · have h3 := hB.sl ((List.range len).map D) ((List.range (mm - len)).map fun j => D (len + j))
     refine Nat.le_trans (Nat.succ_le_succ ?_) h3
     have h4 := sum_le (p := m) (g := fun i => B (D i)) (l := l) (o := 0) fun i b hb => by
      rw [Nat.zero_add]
      exact (h2 i b hb).2
     rw [h1] at h4
     rw [List.map_map]
     simpa [Function.comp_def] using h4
def FOpenB (B : DataW H -> Nat) (enc : TypeId × Value -> H) (P : Program) (W : World) (base : Nat) (spare : Nat -> Bool) (held : Bool) (T off : Nat) (fs : List Field) (r : Rp α) (m : α -> Nat) : Prop :=
 ∀ (n : Nat) (cs : List Value) (xs : List (DataW H × List MemPlace)), cs.length = T -> xs.length = fs.length ->
  (∀ (i : Nat) (f : Field), fs[i]? = some f -> DataW.trod enc P W base spare held n f.type ((cs.drop f.offset).take (P.cellsOf f.type)) = xs[i]?) ->
  (∀ (i : Nat) (f : Field) (x : DataW H × List MemPlace), fs[i]? = some f -> xs[i]? = some x -> ∀ k, k ∈ x.1.weights P f.type -> k <= reachBytes) -> ∃ a : α, r W (fun _ => True) a (cs.drop off) /\ m a <= (xs.map fun x => B x.1).sum
theorem foB_nil {T off : Nat} (h : T = off) : FOpenB B enc P W base spare held T off [] rUnit fun _ => 0 := fun n cs xs hl _ _ _ => ⟨(), by
 show cs.drop off = []
 exact List.drop_eq_nil_of_le (by omega), Nat.zero_le _⟩
theorem foB_cons {T off s : Nat} {f : Field} {fs : List Field} {r : Rp α} {q : Rp β} {m : α -> Nat} {m' : β -> Nat} (ho : f.offset = off) (hs : P.cellsOf f.type = s) (hr : OpensB B enc P W base spare held f.type r m) (hq : FOpenB B enc P W base spare held T (off + s) fs q m') :
  FOpenB B enc P W base spare held T off (f :: fs) (rPair r q) fun x => m x.1 + m' x.2 := fun n cs xs hl hx hf hw => by
 cases xs with
 | nil => simp at hx
 | cons x xs =>
  have h0 := hf 0 f rfl
  rw [ho, hs] at h0
  obtain ⟨a, ha, ha'⟩ := hr n _ x h0 (hw 0 f x rfl rfl)
  obtain ⟨b, hb, hb'⟩ := hq n cs xs hl (by simpa using hx) (fun i g hg => hf (i + 1) g hg) (fun i g y hg hy => hw (i + 1) g y hg hy)
  refine ⟨(a, b), ⟨_, _, by rw [<- List.drop_drop, List.take_append_drop], ha, hb⟩, ?_⟩
  rw [List.map_cons, List.sum_cons]
  exact Nat.add_le_add ha' hb'
theorem opensB_struct (hB : IsBulk B) {t : TypeId} {fs : Array Field} {T : Nat} {r : Rp α} {m : α -> Nat} (ht : P.underlying t = some (.struct fs)) (hT : P.cellsOf t = T) (hF : FOpenB B enc P W base spare held T 0 fs.toList r m) : OpensB B enc P W base spare held t r fun x => m x + 1 := fun fuel cs x h hw => by
 obtain ⟨xs, n, rfl, rfl, hl, hxl, hf⟩ := DataW.trod_struct ht h
 obtain ⟨a, ha, ha'⟩ := hF n cs xs (by omega) (by simpa using hxl) (fun i f hi => hf i f (by simpa using hi)) (fun i f x hi hx k hk => hw k (by
  simp only [DataW.weights, ht]
  refine DataW.weights_mem_each (j := i) ?_ (by rw [List.getElem?_map, hx]; rfl) k hk
  simp only [Array.toList_map, List.getElem?_map, hi]
  rfl))
 refine ⟨a, by simpa using ha, Nat.le_trans (Nat.succ_le_succ ha') ?_⟩
 have := hB.agg (xs.map (·.1))
 rwa [List.map_map] at this
theorem OpensB.map {t : TypeId} {r : Rp α} {q : Rp β} {m : α -> Nat} {m' : β -> Nat} (h : OpensB B enc P W base spare held t r m) (f : α -> β) (hf : ∀ a cs, r W (fun _ => True) a cs -> q W (fun _ => True) (f a) cs /\ m' (f a) <= m a) : OpensB B enc P W base spare held t q m' := fun fuel cs x hx hw => by
 obtain ⟨a, ha, ha'⟩ := h fuel cs x hx hw
 obtain ⟨h1, h2⟩ := hf a cs ha
 exact ⟨f a, h1, Nat.le_trans h2 ha'⟩
theorem argB_struct {t : TypeId} {fs : Array Field} {r : Rp α} {m : α -> Nat} {b0 : Nat} {v : Value} {d : DataW H} {p : List MemPlace} (ht : P.underlying t = some (.struct fs)) (hok : Value.okWide P W .any b0 t v) (h : DataW.Trod enc P W base spare held t v d p)
  (hop : OpensB B enc P W base spare held t r m) (hw : ∀ n, n ∈ d.weights P t -> n <= reachBytes) : ∃ (a : α) (cs : List Value), v = .agg cs.toArray /\ r W (fun _ => True) a cs /\ m a <= B d := by
 obtain ⟨cs, rfl, _⟩ := okWide_struct ht hok
 obtain ⟨fuel, hf⟩ := h
 obtain ⟨a, ha, ha'⟩ := hop fuel _ _ hf hw
 exact ⟨a, cs.toList, by simp, ha, ha'⟩
theorem sum_one : ∀ l : List α, (l.map fun _ => 1).sum = l.length
 | [] => rfl
 | _ :: l => by rw [List.map_cons, List.sum_cons, sum_one l, List.length_cons]; omega
end
end Go.Kt
namespace Go.Proofs.YtndkfaaeeojeiaaGreatDoor.Con
open Go Go.RowKit Go.Kt Go.Kt.V Go.Proofs.YtndkfaaeeojeiaaGreatDoor.Vc Go.ChangeShapes Go.WideShapes
set_option linter.unusedSimpArgs false
set_option linter.unusedVariables false
set_option maxHeartbeats 4000000
set_option maxRecDepth 100000
theorem lift_g {D E : Type} {B : D -> Nat} {sz : E -> Nat} {Q : Nat -> E -> Prop} : ∀ (xs : List D) (o : Nat), (∀ j y, xs[j]? = some y -> ∃ e, Q (o + j) e /\ sz e <= B y) ->
  ∃ l : List E, l.length = xs.length /\ (∀ j e, l[j]? = some e -> Q (o + j) e) /\ (l.map sz).sum <= (xs.map B).sum
 | [], o, _ => ⟨[], rfl, fun j p h => by simp at h, Nat.le_refl _⟩
 | x :: xs, o, h => by
  obtain ⟨e, h1, h2⟩ := h 0 x rfl
  obtain ⟨l, h3, h4, h5⟩ := lift_g (B := B) (sz := sz) (Q := Q) xs (o + 1) fun j y hj => by
   have := h (j + 1) y hj
   rwa [Nat.add_assoc, Nat.add_comm 1 j]
  refine ⟨e :: l, by rw [List.length_cons, List.length_cons, h3], fun j p hj => ?_, ?_⟩
  · cases j with
    | zero =>
     simp only [List.getElem?_cons_zero, Option.some.injEq] at hj
     subst hj
     exact h1
    | succ j =>
     have := h4 j p hj
     rwa [Nat.add_assoc, Nat.add_comm 1 j] at this
  · rw [List.map_cons, List.sum_cons, List.map_cons, List.sum_cons]
    exact Nat.add_le_add h2 h5
theorem mem_sumN {n : Nat} : ∀ {l : List Nat}, n ∈ l -> n <= l.sum
 | [], h => by simp at h
 | x :: l, h => by
  rw [List.sum_cons]
  rcases List.mem_cons.1 h with rfl | h
  · omega
  · have := mem_sumN h; omega
theorem top_of {E : Type} (f : E -> Nat) : ∀ (l : List E), ∃ m, ∀ p, p ∈ l -> f p <= m
 | [] => ⟨0, fun p h => by simp at h⟩
 | x :: l => by
  obtain ⟨m, h⟩ := top_of f l
  refine ⟨max (f x) m, fun p hp => ?_⟩
  rcases List.mem_cons.1 hp with rfl | hp
  · exact Nat.le_max_left _ _
  · exact Nat.le_trans (h p hp) (Nat.le_max_right _ _)
theorem slMap {α β : Type} {r : Rp α} {q : Rp β} {size : Nat} {w : World} {F : Nat -> Prop} {s : Sl} {xs : List α} (f : α -> β) (h : SliceF r size w F s xs) (hf : ∀ x cs, x ∈ xs -> r w F x cs -> q w F (f x) cs) : SliceF q size w F s (xs.map f) := by
 refine ⟨by rw [List.length_map]; exact h.len, h.cap, h.nil0, h.big, fun j y hj => ?_⟩
 rw [List.getElem?_map, Option.map_eq_some_iff] at hj
 obtain ⟨x, hx, rfl⟩ := hj
 obtain ⟨bs, cs, g1, g2, g3, g4, g5⟩ := h.at_ j x hx
 exact ⟨bs, cs, g1, g2, g3, g4, hf x cs (List.mem_of_getElem? hx) g5⟩
theorem slMem {α : Type} {r : Rp α} {size : Nat} {w : World} {F : Nat -> Prop} {s : Sl} {xs : List α} (h : SliceF r size w F s xs) {x : α} (hx : x ∈ xs) : ∃ cs, r w F x cs := h.mem hx
def rXU : Rp (Ex × Nat) := fun w F x cs => rE false w F x.1 cs /\ okN x.1 /\ szX x.1 <= x.2
def rAcU : Rp (Ac × Nat) := fun w F x cs => rAc false w F x.1 cs /\ acN x.1 /\ szA x.1 <= x.2
def rMvU : Rp (Mv × Nat) := fun w F x cs => rMv false w F x.1 cs /\ mvN x.1 /\ szM x.1 <= x.2
def rVrU : Rp (Vr × Nat) := fun w F x cs => rVr w F x.1 cs /\ InI x.1.v /\ x.1.n.length + 1 <= x.2
theorem szL_sum : ∀ l : List Ex, szL l = (l.map szX).sum
 | [] => rfl
 | x :: l => by rw [szL, List.map_cons, List.sum_cons, szL_sum l]
theorem szAs_sum : ∀ l : List Ac, szAs l = (l.map szA).sum
 | [] => rfl
 | x :: l => by rw [szAs, List.map_cons, List.sum_cons, szAs_sum l]
theorem szMs_sum : ∀ l : List Mv, szMs l = (l.map szM).sum
 | [] => rfl
 | x :: l => by rw [szMs, List.map_cons, List.sum_cons, szMs_sum l]
theorem szVs_sum : ∀ l : List Vr, szVs l = (l.map fun v => v.n.length + 1).sum
 | [] => rfl
 | x :: l => by rw [szVs, List.map_cons, List.sum_cons, szVs_sum l]
theorem szNs_sum : ∀ l : List Nd, szNs l = (l.map szN).sum
 | [] => by rw [szNs]; rfl
 | x :: l => by rw [szNs, List.map_cons, List.sum_cons, szNs_sum l]
theorem sum_fst {α : Type} {f : α -> Nat} : ∀ {l : List (α × Nat)}, (∀ x, x ∈ l -> f x.1 <= x.2) -> ((l.map (·.1)).map f).sum <= (l.map fun x => x.2).sum
 | [], _ => Nat.le_refl _
 | x :: l, h => by
  rw [List.map_cons, List.map_cons, List.sum_cons, List.map_cons, List.sum_cons]
  exact Nat.add_le_add (h x (by simp)) (sum_fst fun y hy => h y (by simp [hy]))
theorem bsz (s : ByteArray) : s.data.toList.length = s.size := by rw [Array.length_toList]; rfl
section
variable {H : Type} {enc : TypeId × Value -> H} {W : World} {base : Nat} {spare : Nat -> Bool} {held : Bool} {B : DataW H -> Nat}
def rTrX (enc : TypeId × Value -> H) (W : World) (base : Nat) (spare : Nat -> Bool) (held : Bool) (t : TypeId) : Rp (DataW H) := fun _ _ x cs => ∃ fuel p, DataW.trod enc Tryz.prog W base spare held fuel t cs = some (x, p) /\ ∀ n, n ∈ x.weights Tryz.prog t -> n <= reachBytes
theorem opensB_t (hB : IsBulk B) (t : TypeId) : OpensB B enc Tryz.prog W base spare held t (rTrX enc W base spare held t) B := fun fuel cs x h hw => ⟨x.1, ⟨fuel, x.2, h, hw⟩, Nat.le_refl _⟩
theorem opens1_ex (hB : IsBulk B) : OpensB B enc Tryz.prog W base spare held 56 (rPair rInt (rPair rInt (rPair rStr (rPair rInt (rPair (rSl (rTrX enc W base spare held 56) 6 72) (rPair rInt rUnit))))))
  fun x => (1 + (1 + ((x.2.2.1.size + 1) + (1 + (((x.2.2.2.2.1.map B).sum + 1) + (1 + 0)))))) + 1 := by
 have h := opensB_struct (enc := enc) (P := Tryz.prog) (W := W) (base := base) (spare := spare) (held := held) (T := 6) hB Tryz.underlying56 (by kernel_rfl)
   (foB_cons (s := 1) rfl (by kernel_rfl) (opensB_of hB (opens_int Tryz.underlying3)) (foB_cons (s := 1) rfl (by kernel_rfl) (opensB_of hB (opens_int Tryz.underlying3)) (foB_cons (s := 1) rfl (by kernel_rfl) (opensB_str hB Tryz.underlying9) (foB_cons (s := 1) rfl (by kernel_rfl) (opensB_of hB (opens_int Tryz.underlying3)) (foB_cons (s := 1) rfl (by kernel_rfl) (opensB_slice (size := 6) (bytes := 72) hB Tryz.underlying54 (by kernel_rfl) (by kernel_rfl) (opensB_t hB _)) (foB_cons (s := 1) rfl (by kernel_rfl) (opensB_of hB (opens_int Tryz.underlying3)) (foB_nil rfl)))))))
 exact h
theorem exU_of (hB : IsBulk B) : ∀ (N : Nat) {x : DataW H} {cs : List Value} {F : Nat -> Prop}, B x <= N -> rTrX enc W base spare held 56 W F x cs -> ∃ (e : Ex) (d : Nat), rXg false d W (fun _ => True) e cs /\ okN e /\ szX e <= B x
 | 0, x, cs, F, h, _ => by have := hB.one x; omega
 | N + 1, x, cs, F, h, ⟨fuel, p, ht, hw⟩ => by
  obtain ⟨⟨k, n, s, op, xs, a, u⟩, hr, hm⟩ := opens1_ex (enc := enc) (W := W) (base := base) (spare := spare) (held := held) hB fuel cs (x, p) ht hw
  obtain ⟨c1, r1, rfl, ⟨rfl, i1⟩, c2, r2, rfl, ⟨rfl, i2⟩, c3, r3, rfl, ⟨rfl, i3⟩, c4, r4, rfl, ⟨rfl, i4⟩, c5, r5, rfl, ⟨sl, rfl, hsl, _⟩, c6, r6, rfl, ⟨rfl, i6⟩, hu⟩ := hr
  have hu : r6 = [] := hu
  subst hu
  dsimp only at hm hsl i1 i2 i3
  have hsum : ∀ y, y ∈ xs -> B y <= (xs.map B).sum := fun y hy => mem_sumN (List.mem_map_of_mem hy)
  obtain ⟨l, l1, l2, l3⟩ := lift_g (B := B) (sz := fun e : Ex × Nat => szX e.1) (Q := fun j e => ∃ base cs, sl.a = some base /\ cs.length = 6 /\ Cells W (base.add (j * 6)) cs /\ rXg false e.2 W (fun _ => True) e.1 cs /\ okN e.1) xs 0 fun j y hj => by
   rw [Nat.zero_add]
   obtain ⟨bs, ds, g1, g2, g3, g4, g5⟩ := hsl.at_ j y hj
   obtain ⟨e, d, t1, t2, t3⟩ := exU_of hB N (x := y) (by have := hsum y (List.mem_of_getElem? hj); omega) g5
   exact ⟨(e, d), ⟨bs, ds, g1, g3, g4, t1, t2⟩, t3⟩
  obtain ⟨m, hmx⟩ := top_of (fun e : Ex × Nat => e.2) l
  refine ⟨.mk k n s.data.toList op (l.map (·.1)) a, m + 1, ⟨sl, ?_, ?_, fun h => (by cases h)⟩, fun d => ?_, ?_⟩
  · have e : exv k n s.data.toList op sl a = [.int .i64 k, .int .i64 n, .string s, .int .i64 op, sl.v, .int .i64 a] := by
     show [_, _, Value.string (T s.data.toList), _, _, _] = _
     rw [<- T_of s]
    exact e.symm
  · refine ⟨by rw [Ex.subs, List.length_map, l1]; exact hsl.len, hsl.cap, hsl.nil0, hsl.big, fun j e hj => ?_⟩
    rw [Ex.subs, List.getElem?_map, Option.map_eq_some_iff] at hj
    obtain ⟨q, q1, rfl⟩ := hj
    obtain ⟨bs, ds, g1, g2, g3, g4, g5⟩ := l2 j q q1
    rw [Nat.zero_add] at g3
    exact ⟨bs, ds, g1, trivial, g2, g3, rXg_le (hmx q (List.mem_of_getElem? q1)) g4⟩
  · cases d with
    | zero => trivial
    | succ d =>
     refine ⟨i2, fun y hy => ?_⟩
     obtain ⟨q, q1, rfl⟩ := List.mem_map.1 hy
     obtain ⟨j, hj⟩ := List.getElem?_of_mem q1
     obtain ⟨bs, ds, g1, g2, g3, g4, g5⟩ := l2 j q hj
     exact g5 d
  · rw [szX_eq]
    show szL (l.map (·.1)) + (s.data.toList.length + 1) <= _
    rw [szL_sum, List.map_map, bsz]
    have e : (l.map (szX ∘ fun x => x.1)).sum = (l.map fun e : Ex × Nat => szX e.1).sum := rfl
    omega
theorem opensB_xu (hB : IsBulk B) : OpensB B enc Tryz.prog W base spare held 56 rXU fun x => x.2 := fun fuel cs x h hw => by
 obtain ⟨e, d, h1, h2, h3⟩ := exU_of hB (B x.1) (x := x.1) (F := fun _ => True) (Nat.le_refl _) ⟨fuel, x.2, h, hw⟩
 exact ⟨(e, B x.1), ⟨⟨d, h1⟩, h2, h3⟩, Nat.le_refl _⟩
theorem opensB_ac (hB : IsBulk B) : OpensB B enc Tryz.prog W base spare held 173 rAcU fun x => x.2 := by
 have h := opensB_struct (enc := enc) (P := Tryz.prog) (W := W) (base := base) (spare := spare) (held := held) (T := 9) hB Tryz.underlying173 (by kernel_rfl)
   (foB_cons (s := 1) rfl (by kernel_rfl) (opensB_of hB (opens_int Tryz.underlying3)) (foB_cons (s := 1) rfl (by kernel_rfl) (opensB_str hB Tryz.underlying9) (foB_cons (s := 6) rfl (by kernel_rfl) (opensB_xu hB) (foB_cons (s := 1) rfl (by kernel_rfl) (opensB_of hB (opens_int Tryz.underlying3)) (foB_nil rfl)))))
 refine h.map (fun x => ((⟨x.1, x.2.1.data.toList, x.2.2.1.1, x.2.2.2.1⟩ : Ac), x.2.2.1.2 + (x.2.1.size + 1))) ?_
 rintro ⟨k, n, ⟨e, m⟩, a, u⟩ cs ⟨c1, r1, rfl, ⟨rfl, i1⟩, c2, r2, rfl, ⟨rfl, i2⟩, c3, r3, rfl, ⟨he, hn, hz⟩, c4, r4, rfl, ⟨rfl, i4⟩, hu⟩
 have hu : r4 = [] := hu
 subst hu
 refine ⟨⟨⟨c3, ?_, he⟩, hn, ?_⟩, by dsimp only; omega⟩
 · show _ = _ :: Value.string (T n.data.toList) :: _
   rw [<- T_of n]
   simp
 · show szX e + (n.data.toList.length + 1) <= _
   rw [bsz]
   dsimp only at hz ⊢
   omega
theorem acs_of {w : World} {F : Nat -> Prop} {s : Sl} {xs : List (Ac × Nat)} (h : SliceF rAcU 9 w F s xs) : SlG false (rAc false) 9 173 w F s (xs.map (·.1)) /\ (∀ a, a ∈ xs.map (·.1) -> acN a) /\ szAs (xs.map (·.1)) <= (xs.map fun x => x.2).sum := by
 refine ⟨⟨slMap (·.1) h fun x cs _ hx => hx.1, fun h => (by cases h)⟩, fun a ha => ?_, ?_⟩
 · obtain ⟨x, hx, rfl⟩ := List.mem_map.1 ha
   obtain ⟨cs, hc⟩ := slMem h hx
   exact hc.2.1
 · rw [szAs_sum]
   exact sum_fst fun x hx => by
    obtain ⟨cs, hc⟩ := slMem h hx
    exact hc.2.2
theorem opensB_mv (hB : IsBulk B) : OpensB B enc Tryz.prog W base spare held 59 rMvU fun x => x.2 := by
 have h := opensB_struct (enc := enc) (P := Tryz.prog) (W := W) (base := base) (spare := spare) (held := held) (T := 13) hB Tryz.underlying59 (by kernel_rfl)
   (foB_cons (s := 1) rfl (by kernel_rfl) (opensB_of hB (opens_int Tryz.underlying3)) (foB_cons (s := 1) rfl (by kernel_rfl) (opensB_str hB Tryz.underlying9) (foB_cons (s := 1) rfl (by kernel_rfl) (opensB_of hB (opens_int Tryz.underlying3)) (foB_cons (s := 1) rfl (by kernel_rfl) (opensB_of hB (opens_bool Tryz.underlying4)) (foB_cons (s := 6) rfl (by kernel_rfl) (opensB_xu hB)
   (foB_cons (s := 1) rfl (by kernel_rfl) (opensB_slice (size := 9) (bytes := 104) hB Tryz.underlying23 (by kernel_rfl) (by kernel_rfl) (opensB_ac hB)) (foB_cons (s := 1) rfl (by kernel_rfl) (opensB_slice (size := 1) (bytes := 16) hB Tryz.underlying57 (by kernel_rfl) (by kernel_rfl) (opensB_str hB Tryz.underlying9)) (foB_cons (s := 1) rfl (by kernel_rfl) (opensB_of hB (opens_int Tryz.underlying3)) (foB_nil rfl)))))))))
 refine h.map (fun x => ((⟨x.1, x.2.1.data.toList, x.2.2.1, x.2.2.2.1, x.2.2.2.2.1.1, x.2.2.2.2.2.1.map (·.1), x.2.2.2.2.2.2.1.map fun s => s.data.toList, x.2.2.2.2.2.2.2.1⟩ : Mv), (((x.2.2.2.2.2.1.map fun x => x.2).sum + x.2.2.2.2.1.2) + ((x.2.2.2.2.2.2.1.map fun s => s.size + 1).sum + (x.2.1.size + 1))))) ?_
 rintro ⟨k, ev, wt, gd, ⟨g, m⟩, ac, tg, a, u⟩ cs ⟨c1, r1, rfl, ⟨rfl, i1⟩, c2, r2, rfl, ⟨rfl, i2⟩, c3, r3, rfl, ⟨rfl, i3⟩, c4, r4, rfl, h4, c5, r5, rfl, ⟨he, hn, hz⟩, c6, r6, rfl, ⟨asl, rfl, hac, _⟩, c7, r7, rfl, ⟨tsl, rfl, htg, _⟩, c8, r8, rfl, ⟨rfl, i8⟩, hu⟩
 have hu : r8 = [] := hu
 have h4 : c4 = [.bool gd] := h4
 subst hu h4
 obtain ⟨a1, a2, a3⟩ := acs_of hac
 have htg' : SliceF rTx 1 W (fun _ => True) tsl (tg.map fun s => s.data.toList) := slMap (fun s => s.data.toList) htg fun x cs _ hx => by
  obtain ⟨rfl, _⟩ := hx
  show _ = [Value.string (T x.data.toList)]
  rw [<- T_of x]
 refine ⟨⟨⟨c5, asl, tsl, ?_, he, a1, ⟨htg', fun h => (by cases h)⟩⟩, ⟨hn, a2, i3⟩, ?_⟩, by dsimp only; omega⟩
 · show _ = _ :: Value.string (T ev.data.toList) :: _
   rw [<- T_of ev]
   simp
 · show (szAs (ac.map (·.1)) + szX g) + (szT (tg.map fun s => s.data.toList) + (ev.data.toList.length + 1)) <= _
   have e : szT (tg.map fun s => s.data.toList) = (tg.map fun s => s.size + 1).sum := by
    unfold szT
    rw [List.map_map]
    congr 1
   rw [e, bsz]
   dsimp only at hz a3 ⊢
   omega
theorem mvs_of {w : World} {F : Nat -> Prop} {s : Sl} {xs : List (Mv × Nat)} (h : SliceF rMvU 13 w F s xs) : SlG false (rMv false) 13 59 w F s (xs.map (·.1)) /\ (∀ a, a ∈ xs.map (·.1) -> mvN a) /\ szMs (xs.map (·.1)) <= (xs.map fun x => x.2).sum := by
 refine ⟨⟨slMap (·.1) h fun x cs _ hx => hx.1, fun h => (by cases h)⟩, fun a ha => ?_, ?_⟩
 · obtain ⟨x, hx, rfl⟩ := List.mem_map.1 ha
   obtain ⟨cs, hc⟩ := slMem h hx
   exact hc.2.1
 · rw [szMs_sum]
   exact sum_fst fun x hx => by
    obtain ⟨cs, hc⟩ := slMem h hx
    exact hc.2.2
theorem opensB_vr (hB : IsBulk B) : OpensB B enc Tryz.prog W base spare held 75 rVrU fun x => x.2 := by
 have h := opensB_struct (enc := enc) (P := Tryz.prog) (W := W) (base := base) (spare := spare) (held := held) (T := 3) hB Tryz.underlying75 (by kernel_rfl)
   (foB_cons (s := 1) rfl (by kernel_rfl) (opensB_str hB Tryz.underlying9) (foB_cons (s := 1) rfl (by kernel_rfl) (opensB_of hB (opens_int Tryz.underlying3)) (foB_cons (s := 1) rfl (by kernel_rfl) (opensB_of hB (opens_int Tryz.underlying3)) (foB_nil rfl))))
 refine h.map (fun x => ((⟨x.1.data.toList, x.2.1, x.2.2.1⟩ : Vr), x.1.size + 1)) ?_
 rintro ⟨n, v, a, u⟩ cs ⟨c1, r1, rfl, ⟨rfl, i1⟩, c2, r2, rfl, ⟨rfl, i2⟩, c3, r3, rfl, ⟨rfl, i3⟩, hu⟩
 have hu : r3 = [] := hu
 subst hu
 refine ⟨⟨?_, i2, ?_⟩, by dsimp only; omega⟩
 · show _ = [Value.string (T n.data.toList), _, _]
   rw [<- T_of n]
   rfl
 · show n.data.toList.length + 1 <= _
   rw [bsz]
   exact Nat.le_refl _
theorem opens1_nd (hB : IsBulk B) : OpensB B enc Tryz.prog W base spare held 27 (rPair rInt (rPair rStr (rPair rStr (rPair rStr (rPair (rSl rAcU 9 104) (rPair (rSl rAcU 9 104) (rPair (rSl rMvU 13 168) (rPair (rSl (rTrX enc W base spare held 27) 9 160) (rPair rInt rUnit)))))))))
  fun x => (1 + ((x.2.1.size + 1) + ((x.2.2.1.size + 1) + ((x.2.2.2.1.size + 1) + (((x.2.2.2.2.1.map fun x => x.2).sum + 1) + (((x.2.2.2.2.2.1.map fun x => x.2).sum + 1) + (((x.2.2.2.2.2.2.1.map fun x => x.2).sum + 1) + (((x.2.2.2.2.2.2.2.1.map B).sum + 1) + (1 + 0))))))))) + 1 := by
 have h := opensB_struct (enc := enc) (P := Tryz.prog) (W := W) (base := base) (spare := spare) (held := held) (T := 9) hB Tryz.underlying27 (by kernel_rfl)
   (foB_cons (s := 1) rfl (by kernel_rfl) (opensB_of hB (opens_int Tryz.underlying3)) (foB_cons (s := 1) rfl (by kernel_rfl) (opensB_str hB Tryz.underlying9) (foB_cons (s := 1) rfl (by kernel_rfl) (opensB_str hB Tryz.underlying9) (foB_cons (s := 1) rfl (by kernel_rfl) (opensB_str hB Tryz.underlying9)
   (foB_cons (s := 1) rfl (by kernel_rfl) (opensB_slice (size := 9) (bytes := 104) hB Tryz.underlying23 (by kernel_rfl) (by kernel_rfl) (opensB_ac hB)) (foB_cons (s := 1) rfl (by kernel_rfl) (opensB_slice (size := 9) (bytes := 104) hB Tryz.underlying23 (by kernel_rfl) (by kernel_rfl) (opensB_ac hB))
   (foB_cons (s := 1) rfl (by kernel_rfl) (opensB_slice (size := 13) (bytes := 168) hB Tryz.underlying24 (by kernel_rfl) (by kernel_rfl) (opensB_mv hB)) (foB_cons (s := 1) rfl (by kernel_rfl) (opensB_slice (size := 9) (bytes := 160) hB Tryz.underlying25 (by kernel_rfl) (by kernel_rfl) (opensB_t hB _)) (foB_cons (s := 1) rfl (by kernel_rfl) (opensB_of hB (opens_int Tryz.underlying3)) (foB_nil rfl))))))))))
 exact h
theorem ndsN_of : ∀ {l : List Nd}, (∀ x, x ∈ l -> ndN x) -> ndsN l
 | [], _ => by rw [ndsN]; trivial
 | x :: l, h => by
  rw [ndsN]
  exact ⟨h x (by simp), ndsN_of fun y hy => h y (by simp [hy])⟩
theorem ndU_of (hB : IsBulk B) : ∀ (N : Nat) {x : DataW H} {cs : List Value} {F : Nat -> Prop}, B x <= N -> rTrX enc W base spare held 27 W F x cs -> ∃ (e : Nd) (d : Nat), rNd false d W (fun _ => True) e cs /\ ndN e /\ szN e <= B x
 | 0, x, cs, F, h, _ => by have := hB.one x; omega
 | N + 1, x, cs, F, h, ⟨fuel, p, ht, hw⟩ => by
  obtain ⟨⟨k, nm, ini, dft, en, lv, mv, xs, a, u⟩, hr, hm⟩ := opens1_nd (enc := enc) (W := W) (base := base) (spare := spare) (held := held) hB fuel cs (x, p) ht hw
  obtain ⟨c1, r1, rfl, ⟨rfl, i1⟩, c2, r2, rfl, ⟨rfl, i2⟩, c3, r3, rfl, ⟨rfl, i3⟩, c4, r4, rfl, ⟨rfl, i4⟩, c5, r5, rfl, ⟨ens, rfl, hen, _⟩, c6, r6, rfl, ⟨lvs, rfl, hlv, _⟩, c7, r7, rfl, ⟨mvs, rfl, hmv, _⟩, c8, r8, rfl, ⟨sl, rfl, hsl, _⟩, c9, r9, rfl, ⟨rfl, i9⟩, hu⟩ := hr
  have hu : r9 = [] := hu
  subst hu
  dsimp only at hm hsl hen hlv hmv
  have hsum : ∀ y, y ∈ xs -> B y <= (xs.map B).sum := fun y hy => mem_sumN (List.mem_map_of_mem hy)
  obtain ⟨l, l1, l2, l3⟩ := lift_g (B := B) (sz := fun e : Nd × Nat => szN e.1) (Q := fun j e => ∃ base cs, sl.a = some base /\ cs.length = 9 /\ Cells W (base.add (j * 9)) cs /\ rNd false e.2 W (fun _ => True) e.1 cs /\ ndN e.1) xs 0 fun j y hj => by
   rw [Nat.zero_add]
   obtain ⟨bs, ds, g1, g2, g3, g4, g5⟩ := hsl.at_ j y hj
   obtain ⟨e, d, t1, t2, t3⟩ := ndU_of hB N (x := y) (by have := hsum y (List.mem_of_getElem? hj); omega) g5
   exact ⟨(e, d), ⟨bs, ds, g1, g3, g4, t1, t2⟩, t3⟩
  obtain ⟨m, hmx⟩ := top_of (fun e : Nd × Nat => e.2) l
  obtain ⟨a1, a2, a3⟩ := acs_of hen
  obtain ⟨b1, b2, b3⟩ := acs_of hlv
  obtain ⟨d1, d2, d3⟩ := mvs_of hmv
  refine ⟨.mk ⟨k, nm.data.toList, ini.data.toList, dft.data.toList, en.map (·.1), lv.map (·.1), mv.map (·.1), a⟩ (l.map (·.1)), m + 1, ⟨ens, lvs, mvs, sl, ?_, ⟨a1, b1, d1⟩, ?_, fun h => (by cases h)⟩, ?_, ?_⟩
  · show _ = [_, Value.string (T nm.data.toList), Value.string (T ini.data.toList), Value.string (T dft.data.toList), _, _, _, _, _]
    rw [<- T_of nm, <- T_of ini, <- T_of dft]
    rfl
  · refine ⟨by rw [Nd.kids, List.length_map, l1]; exact hsl.len, hsl.cap, hsl.nil0, hsl.big, fun j e hj => ?_⟩
    rw [Nd.kids, List.getElem?_map, Option.map_eq_some_iff] at hj
    obtain ⟨q, q1, rfl⟩ := hj
    obtain ⟨bs, ds, g1, g2, g3, g4, g5⟩ := l2 j q q1
    rw [Nat.zero_add] at g3
    exact ⟨bs, ds, g1, trivial, g2, g3, rNd_le (hmx q (List.mem_of_getElem? q1)) g4⟩
  · rw [ndN]
    refine ⟨⟨a2, b2, d2⟩, ndsN_of fun y hy => ?_⟩
    obtain ⟨q, q1, rfl⟩ := List.mem_map.1 hy
    obtain ⟨j, hj⟩ := List.getElem?_of_mem q1
    obtain ⟨bs, ds, g1, g2, g3, g4, g5⟩ := l2 j q hj
    exact g5
  · rw [szN, szNs_sum, List.map_map]
    unfold szB
    dsimp only
    rw [bsz, bsz, bsz]
    have e : (l.map (szN ∘ fun x => x.1)).sum = (l.map fun e : Nd × Nat => szN e.1).sum := rfl
    omega
def rNdU : Rp (Nd × Nat) := fun w F x cs => ∃ d, rNd false d w F x.1 cs /\ ndN x.1 /\ szN x.1 <= x.2
theorem opensB_nd (hB : IsBulk B) : OpensB B enc Tryz.prog W base spare held 27 rNdU fun x => x.2 := fun fuel cs x h hw => by
 obtain ⟨e, d, h1, h2, h3⟩ := ndU_of hB (B x.1) (x := x.1) (F := fun _ => True) (Nat.le_refl _) ⟨fuel, x.2, h, hw⟩
 exact ⟨(e, B x.1), ⟨d, h1, h2, h3⟩, Nat.le_refl _⟩
def rChU : Rp (Ch × Nat) := fun w F x cs => ∃ (D : Nat) (vs : Sl) (cs' : List Value), cs = vs.v :: cs' /\ ChR false D w F x.1 vs cs' /\ chN x.1 /\ szVs x.1.vars + szN x.1.root <= x.2
theorem opensB_ch (hB : IsBulk B) : OpensB B enc Tryz.prog W base spare held 29 rChU fun x => x.2 := by
 have h := opensB_struct (enc := enc) (P := Tryz.prog) (W := W) (base := base) (spare := spare) (held := held) (T := 10) hB Tryz.underlying29 (by kernel_rfl)
   (foB_cons (s := 1) rfl (by kernel_rfl) (opensB_slice (size := 3) (bytes := 32) hB Tryz.underlying22 (by kernel_rfl) (by kernel_rfl) (opensB_vr hB)) (foB_cons (s := 9) rfl (by kernel_rfl) (opensB_nd hB) (foB_nil rfl)))
 refine h.map (fun x => ((⟨x.1.map (·.1), x.2.1.1⟩ : Ch), (x.1.map fun x => x.2).sum + x.2.1.2)) ?_
 rintro ⟨vs, ⟨nd, m⟩, u⟩ cs ⟨c1, r1, rfl, ⟨vsl, rfl, hvs, _⟩, c2, r2, rfl, ⟨d, hnd, hn, hz⟩, hu⟩
 have hu : r2 = [] := hu
 subst hu
 rw [List.append_nil]
 refine ⟨⟨d, vsl, c2, rfl, ⟨⟨slMap (·.1) hvs fun x cs _ hx => hx.1, fun h => (by cases h)⟩, hnd⟩, ⟨fun v hv => ?_, hn⟩, ?_⟩, by dsimp only; omega⟩
 · obtain ⟨x, hx, rfl⟩ := List.mem_map.1 hv
   obtain ⟨cs, hc⟩ := slMem hvs hx
   exact hc.2.1
 · show szVs (vs.map (·.1)) + szN nd <= _
   rw [szVs_sum]
   have := sum_fst (f := fun v : Vr => v.n.length + 1) (l := vs) fun x hx => by
    obtain ⟨cs, hc⟩ := slMem hvs hx
    exact hc.2.2
   dsimp only at hz ⊢
   omega
end
end Go.Proofs.YtndkfaaeeojeiaaGreatDoor.Con
namespace Go.Proofs.YtndkfaaeeojeiaaGreatDoor.Con
open Go Go.RowKit Go.Kt Go.Kt.V
set_option linter.unusedSimpArgs false
set_option linter.unusedVariables false
set_option maxHeartbeats 4000000
def sh (t : Tk) : Tk := ⟨t.k, t.t, t.n, t.a + 1⟩
inductive Sim : Ex -> Ex -> Prop
 | leaf (k n : Int) (s : List UInt8) (op a b : Int) : Sim (.mk k n s op [] a) (.mk k n s op [] b)
 | one (k n : Int) (s : List UInt8) (op a b : Int) (x y : Ex) : Sim x y -> Sim (.mk k n s op [x] a) (.mk k n s op [y] b)
 | two (k n : Int) (s : List UInt8) (op a b : Int) (x y x' y' : Ex) : Sim x x' -> Sim y y' -> Sim (.mk k n s op [x, y] a) (.mk k n s op [x', y'] b)
structure Wr (ts ts' : List Tk) (n : Nat) : Prop where
 e : ∀ i, n <= i -> (tk ts i).k = 5
 s : ∀ i, i < n -> (tk ts' (i + 1)).k = (tk ts i).k /\ (tk ts' (i + 1)).t = (tk ts i).t /\ (tk ts' (i + 1)).n = (tk ts i).n
 c : (tk ts' (n + 1)).k = 4 /\ (tk ts' (n + 1)).t = [41]
def Rel (n : Nat) (r r' : Pr) : Prop := ∀ x j, r = .ok (x, j) -> (∃ x', r' = .ok (x', j + 1) /\ Sim x x' /\ j <= n) ∨ ∃ a, r' = .error (21, a)
section
variable {ts ts' : List Tk} {n : Nat}
theorem Wr.lt (h : Wr ts ts' n) {i : Nat} (hk : (tk ts i).k ≠ 5) : i < n := by
 refine Decidable.byContradiction fun hn => hk (h.e i (by omega))
theorem Wr.sgl (h : Wr ts ts' n) {i : Nat} (hi : i < n) (s : List UInt8) : sg ts' (i + 1) s = sg ts i s := by
 unfold sg
 obtain ⟨h1, h2, _⟩ := h.s i hi
 rw [h1, h2]
theorem Wr.sgn (h : Wr ts ts' n) {i : Nat} (hi : i <= n) {s : List UInt8} (hs : s ≠ [41]) : sg ts' (i + 1) s = sg ts i s := by
 rcases Nat.lt_or_ge i n with hl | hl
 · exact h.sgl hl s
 · have : i = n := by omega
   subst this
   unfold sg
   rw [h.c.1, h.c.2, h.e i (Nat.le_refl _)]
   have : decide ([41] = s) = false := decide_eq_false fun e => hs e.symm
   rw [this, Bool.and_false]
   rfl
theorem opTx_ne (op : Nat) : opTx op ≠ [41] := by
 rcases Nat.lt_or_ge op 16 with h | h
 · have : ∀ q, q < 16 -> opTx q ≠ [41] := by decide
   exact this op h
 · unfold opTx
   rw [List.getElem?_eq_none (by exact h)]
   decide
theorem Wr.opf (h : Wr ts ts' n) {i : Nat} (hi : i <= n) (k : Int) : ∀ (f op : Nat), opFrom ts' k (i + 1) f op = opFrom ts k i f op
 | 0, _ => rfl
 | f + 1, op => by
  rw [opFrom, opFrom, h.sgn hi (opTx_ne op), h.opf hi k f]
theorem Wr.op (h : Wr ts ts' n) {i : Nat} (hi : i <= n) (k : Int) : opAt ts' k (i + 1) = opAt ts k i := h.opf hi k 13 1
theorem Rel.map {r r' : Pr} (h : Rel n r r') {g g' : Ex -> Ex} (hg : ∀ x x', Sim x x' -> Sim (g x) (g' x')) : Rel n (mapR g r) (mapR g' r') := by
 intro x j hx
 obtain ⟨y, h1, rfl⟩ := mapR_ok hx
 rcases h y j h1 with ⟨x', h2, h3, h4⟩ | ⟨a, h2⟩
 · exact .inl ⟨g' x', by rw [h2]; rfl, hg _ _ h3, h4⟩
 · exact .inr ⟨a, by rw [h2]; rfl⟩
theorem Rel.and {r r' : Pr} {f f' : Ex -> Nat -> Pr} (h : Rel n r r') (hf : ∀ x x' j, r = .ok (x, j) -> j <= n -> Sim x x' -> Rel n (f x j) (f' x' (j + 1))) : Rel n (andR r f) (andR r' f') := by
 intro x j hx
 obtain ⟨y, m, h1, h5⟩ := andR_ok hx
 rcases h y m h1 with ⟨x', h2, h3, h4⟩ | ⟨a, h2⟩
 · rw [h2]
   exact hf y x' m h1 h4 h3 x j h5
 · exact .inr ⟨a, by rw [h2]; rfl⟩
theorem Rel.nest {r r' : Pr} {d : Nat} {a a' : Int} (h : d + 1 ≠ 20 -> Rel n r r') : Rel n (nestR d a r) (nestR (d + 1) a' r') := by
 intro x j hx
 obtain ⟨h1, h2⟩ := nestR_ok hx
 by_cases h3 : d + 1 = 20
 · exact .inr ⟨a', by rw [nestR, if_pos h3]⟩
 · rw [nestR, if_neg h3]
   exact h h3 x j h1
theorem Rel.par (hw : Wr ts ts' n) {r r' : Pr} (h : Rel n r r') : Rel n (parR ts r) (parR ts' r') := by
 intro x j hx
 obtain ⟨j', h1, h2, rfl⟩ := parR_ok hx
 rcases h x j' h1 with ⟨x', h3, h4, h5⟩ | ⟨a, h3⟩
 · have hl := hw.lt (sg_k h2)
   exact .inl ⟨x', by rw [h3]; simp only [parR]; rw [if_pos (by rw [hw.sgl hl]; exact h2)], h4, hl⟩
 · exact .inr ⟨a, by rw [h3]; rfl⟩
theorem Rel.err {e : Int × Int} {r' : Pr} : Rel n (.error e) r' := fun x j hx => by cases hx
theorem Rel.in_ (hw : Wr ts ts' n) (i : Nat) : Rel n (inR ts i) (inR ts' (i + 1)) := by
 intro x j hx
 have hx0 := hx
 obtain ⟨rfl, rfl⟩ := inR_ok hx0
 unfold inR at hx
 split at hx
 · rename_i h1
   split at hx
   · rename_i h2
     split at hx
     · rename_i h3
       have hl := hw.lt (sg_k h3)
       refine .inl ⟨.mk 3 0 (tk ts' (i + 1 + 2)).t 0 [] (tk ts' (i + 1)).a, ?_, ?_, hl⟩
       · unfold inR
         rw [if_pos (by rw [hw.sgl (by omega : i + 1 < n)]; exact h1), if_pos (by rw [(hw.s (i + 2) (by omega)).1]; exact h2), if_pos (by rw [hw.sgl hl]; exact h3)]
       · have e : (tk ts' (i + 1 + 2)).t = (tk ts (i + 2)).t := (hw.s (i + 2) (by omega)).2.1
         rw [e]
         exact .leaf ..
     · cases hx
   · cases hx
 · cases hx
theorem Rel.one (hw : Wr ts ts' n) {E0 One E0' One' : Nat -> Pr} {d i : Nat} (hE : d + 1 ≠ 20 -> ∀ i, i <= n -> Rel n (E0 i) (E0' (i + 1))) (hO : d + 1 ≠ 20 -> ∀ i, i <= n -> Rel n (One i) (One' (i + 1))) (hi : i <= n) : Rel n (oneR ts E0 One d i) (oneR ts' E0' One' (d + 1) (i + 1)) := by
 by_cases hin : i = n
 · subst hin
   have h5 := hw.e i (Nat.le_refl _)
   have hs : ∀ s, sg ts i s = false := fun s => by
    unfold sg
    rw [h5]
    rfl
   have : oneR ts E0 One d i = .error (wrongF ts i) := by
    unfold oneR
    rw [hs, hs, hs, if_neg (by decide), if_neg (by decide), if_neg (by rw [h5]; decide), if_neg (by rw [h5]; decide), if_neg (by rw [h5]; rintro ⟨h, _⟩; exact absurd h (by decide))]
   rw [this]
   exact Rel.err
 · have hl : i < n := by omega
   obtain ⟨k1, k2, k3⟩ := hw.s i hl
   unfold oneR
   rw [hw.sgl hl, hw.sgl hl, hw.sgl hl, k1, k2, k3]
   split
   · exact Rel.map (Rel.nest fun h => hO h (i + 1) hl) fun x x' hx => .one _ _ _ _ _ _ _ _ hx
   · split
     · exact Rel.nest fun h => Rel.par hw (hE h (i + 1) hl)
     · split
       · intro x j hx
         simp only [Except.ok.injEq, Prod.mk.injEq] at hx
         obtain ⟨rfl, rfl⟩ := hx
         exact .inl ⟨_, rfl, .leaf .., hl⟩
       · split
         · intro x j hx
           simp only [Except.ok.injEq, Prod.mk.injEq] at hx
           obtain ⟨rfl, rfl⟩ := hx
           exact .inl ⟨_, rfl, .leaf .., hl⟩
         · split
           · exact Rel.in_ hw i
           · exact Rel.err
theorem Rel.loop (hw : Wr ts ts' n) {E E' : Nat -> Pr} {k : Int} (hm : ∀ i x j, E i = .ok (x, j) -> i < j) (hE : ∀ i, i <= n -> Rel n (E i) (E' (i + 1))) : ∀ (g g' : Nat) (x x' : Ex) (j : Nat), j <= n -> n - j < g -> n - j < g' -> Sim x x' -> Rel n (loopR ts E k g x j) (loopR ts' E' k g' x' (j + 1))
 | 0, _, _, _, j, _, h, _, _ => by omega
 | _, 0, _, _, j, _, _, h, _ => by omega
 | g + 1, g' + 1, x, x', j, hj, h1, h2, hs => by
  rw [loopR, loopR, hw.op hj]
  split
  · intro y m hy
    simp only [Except.ok.injEq, Prod.mk.injEq] at hy
    obtain ⟨rfl, rfl⟩ := hy
    exact .inl ⟨_, rfl, hs, hj⟩
  · rename_i h0
    have hl := hw.lt (opFrom_sg _ _ h0)
    refine Rel.and (hE (j + 1) hl) fun y y' m hy hmn hs' => ?_
    have := hm _ _ _ hy
    exact Rel.loop hw hm hE g g' _ _ m hmn (by omega) (by omega) (.two _ _ _ _ _ _ _ _ _ _ hs hs')
theorem Rel.expr (hw : Wr ts ts' n) (hl : ts.length = n + 1) (hl' : ts'.length = n + 3) : ∀ (f' f k d i : Nat), k <= 6 -> d + 1 <= 20 -> need k (d + 1) <= f' -> i <= n -> Rel n (exprR ts f k d i) (exprR ts' f' k (d + 1) (i + 1))
 | 0, f, k, d, i, hk, hd, h, _ => by unfold need at h; omega
 | f' + 1, 0, k, d, i, hk, hd, h, _ => Rel.err
 | f' + 1, f + 1, k, d, i, hk, hd, h, hi => by
  rw [exprR, exprR]
  unfold need at h
  split
  · rename_i h6
    subst h6
    exact Rel.one hw (fun hn i hi => Rel.expr hw hl hl' f' f 0 (d + 1) i (by omega) (by omega) (by unfold need; omega) hi) (fun hn i hi => Rel.expr hw hl hl' f' f 6 (d + 1) i (by omega) (by omega) (by unfold need; omega) hi) hi
  · have hR : ∀ i, i <= n -> Rel n (exprR ts f (k + 1) d i) (exprR ts' f' (k + 1) (d + 1) (i + 1)) := fun i hi => Rel.expr hw hl hl' f' f (k + 1) d i (by omega) hd (by unfold need; omega) hi
    refine Rel.and (hR i hi) fun x x' j hx hj hs => ?_
    exact Rel.loop hw (fun i x j h => exprR_mono _ _ _ _ h) hR _ _ _ _ _ hj (by omega) (by omega) hs
end
theorem loop0 {ts : List Tk} {E : Nat -> Pr} {k : Int} {x : Ex} {j : Nat} (h : opAt ts k j = 0) : ∀ g, loopR ts E k g x j = .ok (x, j)
 | 0 => rfl
 | g + 1 => by rw [loopR, if_pos h]
theorem up_err {ts : List Tk} {f d i : Nat} {e : Int × Int} (h : exprR ts f 6 d i = .error e) : ∀ (m k : Nat), k + m = 6 -> exprR ts (f + m) k d i = .error e
 | 0, k, hk => by
  have : k = 6 := by omega
  subst this
  exact h
 | m + 1, k, hk => by
  rw [<- Nat.add_assoc, exprR, if_neg (by omega), up_err h m (k + 1) (by omega)]
  rfl
theorem up_ok {ts : List Tk} {f d i : Nat} {x : Ex} {j : Nat} (h : exprR ts f 6 d i = .ok (x, j)) (h0 : ∀ k : Int, opAt ts k j = 0) : ∀ (m k : Nat), k + m = 6 -> exprR ts (f + m) k d i = .ok (x, j)
 | 0, k, hk => by
  have : k = 6 := by omega
  subst this
  exact h
 | m + 1, k, hk => by
  rw [<- Nat.add_assoc, exprR, if_neg (by omega), up_ok h h0 m (k + 1) (by omega)]
  simp only [andR]
  exact loop0 (h0 _) _
theorem op_end {ts : List Tk} {j : Nat} (h : (tk ts j).k = 5) (k : Int) : opAt ts k j = 0 := by
 refine Decidable.byContradiction fun hn => ?_
 exact opFrom_sg _ _ hn h
theorem op_of {ts : List Tk} {j : Nat} {t : List UInt8} (h : (tk ts j).t = t) (hn : ∀ op, op < 16 -> opTx op ≠ t ∨ op = 0 ∨ 14 <= op) (k : Int) : opAt ts k j = 0 := by
 have : ∀ (f op : Nat), 1 <= op -> op + f <= 14 -> opFrom ts k j f op = 0 := by
  intro f
  induction f with
  | zero => intro op _ _; rfl
  | succ f ih =>
   intro op h1 h2
   rw [opFrom, if_neg, ih (op + 1) (by omega) (by omega)]
   rintro ⟨_, hs⟩
   simp only [sg, Bool.and_eq_true, decide_eq_true_eq] at hs
   rcases hn op (by omega) with e | e | e
   · exact e (by rw [<- h, hs.2])
   · omega
   · omega
 exact this 13 1 (by omega) (by omega)
end Go.Proofs.YtndkfaaeeojeiaaGreatDoor.Con
namespace Go.Proofs.YtndkfaaeeojeiaaGreatDoor.Con
open Go Go.RowKit Go.Kt Go.Kt.V Go.Proofs.YtndkfaaeeojeiaaGreatDoor.Vc
set_option linter.unusedSimpArgs false
set_option linter.unusedVariables false
set_option maxHeartbeats 4000000
theorem Sim.same {x y : Ex} (h : Sim x y) : ∀ d, sameM false d x y = true := by
 have hd : ∀ {k n : Int} {s : List UInt8} {op : Int} {xs ys : List Ex} {a b : Int}, xs.length = ys.length -> diffM false (.mk k n s op xs a) (.mk k n s op ys b) = false := fun h => by
  simp [diffM, Ex.k, Ex.n, Ex.s, Ex.op, Ex.subs, Ex.a, h]
 induction h with
 | leaf k n s op a b =>
  intro d
  cases d with
  | zero => rfl
  | succ d => rw [sameM, if_neg (by rw [hd rfl]; decide)]; rfl
 | one k n s op a b x y h ih =>
  intro d
  cases d with
  | zero => rfl
  | succ d =>
   rw [sameM, if_neg (by rw [hd (xs := [x]) (ys := [y]) rfl]; decide)]
   simp only [Ex.subs, all2, ih d, Bool.and_true]
 | two k n s op a b x y x' y' h1 h2 ih1 ih2 =>
  intro d
  cases d with
  | zero => rfl
  | succ d =>
   rw [sameM, if_neg (by rw [hd (xs := [x, y]) (ys := [x', y']) rfl]; decide)]
   simp only [Ex.subs, all2, ih1 d, ih2 d, Bool.and_true]
def kt (t : Tk) : Int × List UInt8 := (t.k, t.t)
theorem sk0 {c : UInt8} {r : List UInt8} (h1 : blankB c = false) (h2 : (c == 47) = false) : skN false (c :: r) = 0 := by
 rw [skN, if_neg (by rw [h1]; decide), if_neg (by rw [h2, Bool.false_and]; decide)]
theorem sign_tok {c : UInt8} {r : List UInt8} (h1 : letterB c = false) (h2 : digitB c = false) (h3 : shortL.contains c = true) (h4 : sign2 (c :: r) = false) : tokR (c :: r) = .ok (4, [c], 0, 1) := by
 have e : tokR (c :: r) = if letterB c then wordR (c :: r) else if digitB c then numR (c :: r) else signR (c :: r) := rfl
 have hn : signN (c :: r) = 1 := by
  unfold signN
  rw [h4]
  dsimp only
  rw [if_neg (by decide), if_pos h3]
 rw [e, h1, h2, if_neg (by decide), if_neg (by decide), signR, hn]
 rfl
def soft (r : List UInt8) : Prop := ∀ d, r.head? = some d -> d ≠ 61 /\ d ≠ 62
theorem sign2_soft {c : UInt8} {r : List UInt8} (hc : [38, 124].contains c = false) (h : soft r) : sign2 (c :: r) = false := by
 cases r with
 | nil => rfl
 | cons d r =>
  obtain ⟨h1, h2⟩ := h d rfl
  have e1 : (d == 61) = false := by simpa using h1
  have e2 : (d == 62) = false := by simpa using h2
  show ((d == 61 && [60, 62, 61, 33].contains c) || (d == c && [38, 124].contains c) || (c == 45 && d == 62)) = false
  rw [e1, e2, hc, Bool.false_and, Bool.and_false, Bool.and_false]
  rfl
structure De (ts : List Tk) (n m : Nat) (s : List UInt8) : Prop where
 a : ∀ i, i < n -> (tk ts i).k = 4 /\ (tk ts i).t = s
 b : ∀ i, n <= i -> i < n + m -> (tk ts i).k = 4 /\ (tk ts i).t = [40]
 c : (tk ts (n + m)).k = 1 /\ (tk ts (n + m)).t = [120]
 e : ∀ i, n + m < i -> i <= n + m + m -> (tk ts i).k = 4 /\ (tk ts i).t = [41]
 z : (tk ts (n + m + m + 1)).k = 5
 l : ts.length = n + m + m + 2
def DnX : Nat -> Ex -> Prop
 | 0, x => x.k = 2 /\ x.s = [120] /\ x.subs = []
 | q + 1, x => x.k = 4 /\ ∃ y, x.subs = [y] /\ DnX q y
section
variable {ts : List Tk} {n m : Nat} {s : List UInt8}
theorem sg_f {ts : List Tk} {i : Nat} {t s : List UInt8} (h : (tk ts i).t = t) (hne : t ≠ s) : sg ts i s = false := by
 unfold sg
 rw [h, decide_eq_false hne, Bool.and_false]
theorem sg_t {ts : List Tk} {i : Nat} {t : List UInt8} (h : (tk ts i).k = 4 /\ (tk ts i).t = t) : sg ts i t = true := by
 unfold sg
 rw [h.1, h.2, decide_eq_true rfl]
 rfl
theorem De.op (h : De ts n m s) {j : Nat} (hj : n + m < j) (hj2 : j <= n + m + m + 1) (k : Int) : opAt ts k j = 0 := by
 rcases Nat.lt_or_ge (n + m + m) j with h1 | h1
 · have : j = n + m + m + 1 := by omega
   subst this
   exact op_end h.z k
 · exact op_of (h.e j hj h1).2 (by decide) k
theorem De.par (h : De ts n m s) : ∀ (q p f : Nat), p + q = m -> n + p <= 20 -> need 6 (n + p) <= f ->
  (n + m <= 20 /\ ∃ x, exprR ts f 6 (n + p) (n + p) = .ok (x, n + m + 1 + q) /\ DnX 0 x) ∨ (20 < n + m /\ ∃ a, exprR ts f 6 (n + p) (n + p) = .error (21, a))
 | _, _, 0, _, _, hf => by unfold need at hf; omega
 | 0, p, f + 1, hp, hd, hf => by
  have : p = m := by omega
  subst this
  refine .inl ⟨hd, .mk 2 0 (tk ts (n + p)).t 0 [] (tk ts (n + p)).a, ?_, rfl, h.c.2, rfl⟩
  rw [exprR, if_pos rfl]
  unfold oneR
  rw [sg_f h.c.2 (by decide), sg_f h.c.2 (by decide), sg_f h.c.2 (by decide), if_neg (by decide), if_neg (by decide), if_neg (by rw [h.c.1]; decide), if_pos h.c.1]
 | q + 1, p, f + 1, hp, hd, hf => by
  have hb := h.b (n + p) (by omega) (by omega)
  rw [exprR, if_pos rfl]
  unfold oneR
  rw [sg_f hb.2 (by decide), sg_f hb.2 (by decide), sg_t hb, if_neg (by decide), if_pos rfl]
  by_cases h20 : n + p = 20
  · exact .inr ⟨by omega, (tk ts (n + p)).a, by rw [nestR, if_pos h20]⟩
  · rw [nestR, if_neg h20]
    unfold need at hf
    obtain ⟨g, rfl⟩ : ∃ g, f = g + 6 := ⟨f - 6, by omega⟩
    rcases De.par h q (p + 1) g (by omega) (by omega) (by unfold need; omega) with ⟨h1, x, h2, h3⟩ | ⟨h1, a, h2⟩
    · refine .inl ⟨h1, x, ?_, h3⟩
      have hup := up_ok h2 (h.op (by omega) (by omega)) 6 0 rfl
      rw [<- Nat.add_assoc] at hup
      rw [hup]
      simp only [parR]
      rw [if_pos (sg_t (h.e _ (by omega) (by omega))), Nat.add_assoc (n + m + 1)]
    · refine .inr ⟨h1, a, ?_⟩
      have hup := up_err h2 6 0 rfl
      rw [<- Nat.add_assoc] at hup
      rw [hup]
      rfl
theorem De.sgn (h : De ts n m s) (hs : s = [45] ∨ s = [33]) : ∀ (q p f : Nat), p + q = n -> p <= 20 -> need 6 p <= f ->
  (n + m <= 20 /\ ∃ x, exprR ts f 6 p p = .ok (x, n + m + m + 1) /\ DnX q x) ∨ (20 < n + m /\ ∃ a, exprR ts f 6 p p = .error (21, a))
 | _, _, 0, _, _, hf => by unfold need at hf; omega
 | 0, p, f + 1, hp, hd, hf => by
  have : p = n := by omega
  subst this
  have := De.par h m 0 (f + 1) (by omega) (by omega) hf
  simp only [Nat.add_zero] at this
  rcases this with ⟨h1, x, h2, h3⟩ | h1
  · exact .inl ⟨h1, x, by rw [h2]; congr 2; omega, h3⟩
  · exact .inr h1
 | q + 1, p, f + 1, hp, hd, hf => by
  have ha := h.a p (by omega)
  rw [exprR, if_pos rfl]
  unfold oneR
  have hor : (sg ts p [45] || sg ts p [33]) = true := by
   rcases hs with rfl | rfl
   · rw [sg_t ha, Bool.true_or]
   · rw [sg_t ha, Bool.or_true]
  rw [if_pos hor]
  by_cases h20 : p = 20
  · exact .inr ⟨by omega, (tk ts p).a, by rw [nestR, if_pos h20]; rfl⟩
  · rw [nestR, if_neg h20]
    unfold need at hf
    rcases De.sgn h hs q (p + 1) f (by omega) (by omega) (by unfold need; omega) with ⟨h1, x, h2, h3⟩ | ⟨h1, a, h2⟩
    · refine .inl ⟨h1, .mk 4 0 [] (if (tk ts p).t = [33] then 15 else 14) [x] (tk ts p).a, ?_, rfl, x, rfl, h3⟩
      rw [h2]
      rfl
    · exact .inr ⟨h1, a, by rw [h2]; rfl⟩
end
end Go.Proofs.YtndkfaaeeojeiaaGreatDoor.Con
namespace Go.Proofs.YtndkfaaeeojeiaaGreatDoor.Con
open Go Go.RowKit Go.Kt Go.Kt.V
set_option linter.unusedSimpArgs false
set_option linter.unusedVariables false
set_option maxHeartbeats 4000000
abbrev K3 := Int × List UInt8 × Int
def k3 (t : Tk) : K3 := (t.k, t.t, t.n)
theorem u8_all {p : UInt8 -> Prop} (h : ∀ n : Fin 256, p (UInt8.ofNat n.val)) (c : UInt8) : p c := by
 have := h ⟨c.toNat, c.toNat_lt⟩
 simpa using this
theorem while_app {p : UInt8 -> Bool} {r : List UInt8} (hr : ∀ c, r.head? = some c -> p c = false) : ∀ (l : List UInt8), (∀ c, c ∈ l -> p c = true) -> (l ++ r).takeWhile p = l
 | [], _ => by
  cases r with
  | nil => rfl
  | cons c r => rw [List.nil_append, List.takeWhile_cons, if_neg (by rw [hr c rfl]; decide)]
 | c :: l, hl => by rw [List.cons_append, List.takeWhile_cons, if_pos (hl c (by simp)), while_app hr l fun x hx => hl x (by simp [hx])]
theorem head_app {a b : List UInt8} (h : a ≠ []) : (a ++ b).head? = a.head? := by
 cases a with
 | nil => exact absurd rfl h
 | cons c a => rfl
theorem dec_one {u : Nat} (h : u < 10) : Lib.decDigits u = [UInt8.ofNat (48 + u)] := by rw [Lib.decDigits, dif_pos h]
theorem dec_more {u : Nat} (h : ¬ u < 10) : Lib.decDigits u = Lib.decDigits (u / 10) ++ [UInt8.ofNat (48 + u % 10)] := by rw [Lib.decDigits, dif_neg h]
theorem dig_nat {u : Nat} (h : u < 10) : (UInt8.ofNat (48 + u)).toNat = 48 + u := by
 rw [UInt8.toNat_ofNat']
 omega
theorem dig_b {u : Nat} (h : u < 10) : digitB (UInt8.ofNat (48 + u)) = true := by
 unfold digitB
 rw [dig_nat h]
 simp
 omega
theorem dec_all (u : Nat) : ∀ c, c ∈ Lib.decDigits u -> digitB c = true := by
 induction u using Nat.strongRecOn with
 | _ u ih =>
  intro c hc
  by_cases h : u < 10
  · rw [dec_one h, List.mem_singleton] at hc
    subst hc
    exact dig_b h
  · rw [dec_more h, List.mem_append, List.mem_singleton] at hc
    rcases hc with hc | rfl
    · exact ih (u / 10) (by omega) c hc
    · exact dig_b (Nat.mod_lt _ (by decide))
theorem dec_ne (u : Nat) : Lib.decDigits u ≠ [] := by
 by_cases h : u < 10
 · rw [dec_one h]; simp
 · rw [dec_more h]; simp
theorem decV_snoc1 (a : Nat) (l : List UInt8) (c : UInt8) : decV a (l ++ [c]) = decV a l * 10 + (c.toNat - 48) := by
 simp [decV, List.foldl_append]
theorem dec_val (u : Nat) : decV 0 (Lib.decDigits u) = u := by
 induction u using Nat.strongRecOn with
 | _ u ih =>
  by_cases h : u < 10
  · rw [dec_one h]
    have := dig_nat h
    simp only [decV, List.foldl_cons, List.foldl_nil]
    omega
  · rw [dec_more h, decV_snoc1, ih (u / 10) (by omega), dig_nat (Nat.mod_lt _ (by decide))]
    omega
theorem dec_head (u : Nat) (h0 : 0 < u) : (Lib.decDigits u).head? ≠ some 48 := by
 induction u using Nat.strongRecOn with
 | _ u ih =>
  by_cases h : u < 10
  · rw [dec_one h, List.head?_cons]
    intro e
    injection e with e
    have := congrArg UInt8.toNat e
    rw [dig_nat h] at this
    have h48 : (48 : UInt8).toNat = 48 := rfl
    omega
  · rw [dec_more h, head_app (dec_ne _)]
    exact ih (u / 10) (by omega) (by omega)
theorem dec_len1 (u : Nat) (h : 1 < (Lib.decDigits u).length) : 0 < u := by
 refine Decidable.byContradiction fun hn => ?_
 have : u = 0 := by omega
 subst this
 rw [dec_one (by decide)] at h
 simp at h
theorem digit_word {c : UInt8} (h : digitB c = true) : wordB c = true := by unfold wordB; rw [h, Bool.or_true]
theorem digit_nl {c : UInt8} (h : digitB c = true) : letterB c = false := by
 unfold digitB at h
 unfold letterB
 simp only [Bool.and_eq_true, decide_eq_true_eq] at h
 simp
 omega
theorem itoa_nat {n : Int} (h : 0 <= n) : Lib.itoa n = Lib.decDigits n.toNat := by
 unfold Lib.itoa
 rw [if_neg (by omega)]
theorem num_tok' {n : Int} (h0 : 0 <= n) (h1 : n <= 9223372036854775807) {r : List UInt8} (hr : ∀ c, r.head? = some c -> wordB c = false) : tokR (Lib.itoa n ++ r) = .ok (3, [], n, (Lib.itoa n).length) := by
 rw [itoa_nat h0]
 generalize hu : n.toNat = u
 have hn : n = (u : Int) := by omega
 have hall := dec_all u
 have hne := dec_ne u
 have hw := while_app (p := wordB) hr (Lib.decDigits u) fun c hc => digit_word (hall c hc)
 have hd := while_app (p := digitB) (fun c h => by
  have := hr c h
  unfold wordB at this
  exact (Bool.or_eq_false_iff.1 this).2) (Lib.decDigits u) hall
 have hp : parseM (Lib.decDigits u ++ r) = (u, (Lib.decDigits u).length, 0) := by
  unfold parseM
  rw [hd, dec_val]
  rw [if_neg (by simp [hne]), if_neg, if_pos (by omega)]
  rintro (h | ⟨h2, h3⟩)
  · exact hne h
  · rw [head_app hne] at h3
    exact dec_head u (dec_len1 u h2) h3
 have hnum : numR (Lib.decDigits u ++ r) = .ok (3, [], n, (Lib.decDigits u).length) := by
  unfold numR
  rw [hp, hw, if_neg (by simp), if_neg (by simp), hn]
 generalize hm : Lib.decDigits u = m at *
 cases m with
 | nil => exact absurd rfl hne
 | cons c m =>
  have hc := hall c (by simp)
  have e : tokR (c :: m ++ r) = if letterB c then wordR (c :: m ++ r) else if digitB c then numR (c :: m ++ r) else signR (c :: m ++ r) := rfl
  rw [e, digit_nl hc, hc, if_neg (by decide), if_pos rfl, hnum]
theorem tok_n {l : List UInt8} {i : Nat} {p r : List UInt8} {k : Int} {t : List UInt8} {n : Int} {ts : List Tk} (h : l.drop i = p ++ r) (hp : p ≠ []) (hb : skN false (p ++ r) = 0) (ht : tokR (p ++ r) = .ok (k, t, n, p.length)) (hr : toks l (i + p.length) = .ok ts) : toks l i = .ok (⟨k, t, n, (i : Nat)⟩ :: ts) := by
 have hpl := List.length_pos_iff.2 hp
 have hi : i < l.length := by
  have := congrArg List.length h
  rw [List.length_drop, List.length_append] at this
  omega
 rw [toks_step (by omega), h, hb, Nat.add_zero, if_neg (by omega), h, ht]
 dsimp only
 rw [hr]
theorem drop_app {l : List UInt8} {i : Nat} {p r : List UInt8} (h : l.drop i = p ++ r) : l.drop (i + p.length) = r := by
 rw [<- List.drop_drop, h, List.drop_left]
theorem in_of {l : List UInt8} {i : Nat} {p r : List UInt8} (hi : i <= l.length) (h : l.drop i = p ++ r) : i + p.length <= l.length := by
 have := congrArg List.length h
 rw [List.length_drop, List.length_append] at this
 omega
def txM : Nat -> Ex -> Bool -> List UInt8
 | 0, _, _ => []
 | d + 1, x, wr => clo wr (opn wr [] ++ (
  if x.k = 1 then Lib.itoa x.n
  else if x.k = 2 then x.s
  else if x.k = 3 then [105, 110, 40] ++ x.s ++ [41]
  else if x.k = 4 then (match x.subs with
   | [y] => opTx x.op.toNat ++ txM d y (decide (levM y < 6))
   | _ => [])
  else (match x.subs with
   | [y, z] => txM d y (decide (levM y < levM x)) ++ ([32] ++ opTx x.op.toNat ++ [32]) ++ txM d z (decide (levM z <= levM x))
   | _ => [])))
theorem opn_eq (wr : Bool) (l : List UInt8) : opn wr l = l ++ opn wr [] := by cases wr <;> simp [opn]
theorem clo_eq (wr : Bool) (l m : List UInt8) : clo wr (l ++ m) = l ++ clo wr m := by cases wr <;> simp [clo]
theorem clo_ge (wr : Bool) (l : List UInt8) : l.length <= (clo wr l).length := by cases wr <;> simp [clo]
theorem opn_ge (wr : Bool) (l : List UInt8) : l.length <= (opn wr l).length := by cases wr <;> simp [opn]
theorem pg_ge : ∀ (d : Nat) (x : Ex) (wr : Bool) (l : List UInt8), l.length <= (pgM d x wr l).length
 | 0, _, _, _ => Nat.le_refl _
 | d + 1, x, wr, l => by
  rw [pgM]
  split
  · exact Nat.le_refl _
  refine Nat.le_trans ?_ (clo_ge _ _)
  have h1 := opn_ge wr l
  split
  · rw [List.length_append]; omega
  · split
    · rw [List.length_append]; omega
    · split
      · rw [List.length_append]; omega
      · split
        · split
          · rename_i y _
            have := pg_ge d y (decide (levM y < 6)) (opn wr l ++ opTx x.op.toNat)
            rw [List.length_append] at this
            omega
          · exact Nat.le_refl _
        · split
          · rename_i y z _
            have a1 := pg_ge d y (decide (levM y < levM x)) (opn wr l)
            have a2 := pg_ge d z (decide (levM z <= levM x)) (pgM d y (decide (levM y < levM x)) (opn wr l) ++ ([32] ++ opTx x.op.toNat ++ [32]))
            rw [List.length_append] at a2
            omega
          · exact Nat.le_refl _
theorem pg_tx : ∀ (d : Nat) {x : Ex} (wr : Bool) (l : List UInt8), shapeM d x = true -> (pgM d x wr l).length <= 16384 -> pgM d x wr l = l ++ txM d x wr
 | 0, x, wr, l, h, _ => by cases h
 | d + 1, x, wr, l, h, hl => by
  rw [shapeM, Bool.and_eq_true] at h
  obtain ⟨hh, ha⟩ := h
  have h0 := pg_ge (d + 1) x wr l
  have hc : ¬ 16384 < l.length := by omega
  rw [pgM, if_neg hc] at hl ⊢
  rw [txM, <- clo_eq]
  have hl2 := Nat.le_trans (clo_ge wr _) hl
  congr 1
  by_cases k1 : x.k = 1
  · rw [if_pos k1, if_pos k1, opn_eq wr l, List.append_assoc]
  by_cases k2 : x.k = 2
  · rw [if_neg k1, if_neg k1, if_pos k2, if_pos k2, opn_eq wr l, List.append_assoc]
  by_cases k3 : x.k = 3
  · rw [if_neg k1, if_neg k1, if_neg k2, if_neg k2, if_pos k3, if_pos k3, opn_eq wr l, List.append_assoc]
  by_cases k4 : x.k = 4
  · obtain ⟨y, hy, _⟩ := head4 hh k4
    rw [if_neg k1, if_neg k2, if_neg k3, if_pos k4, hy] at hl2
    rw [if_neg k1, if_neg k1, if_neg k2, if_neg k2, if_neg k3, if_neg k3, if_pos k4, if_pos k4, hy]
    rw [hy] at ha
    dsimp only at hl2 ⊢
    simp only [all1, Bool.and_true] at ha
    rw [pg_tx d _ _ ha hl2, opn_eq wr l]
    simp only [List.append_assoc]
  · obtain ⟨_, y, z, hy, _⟩ := head5 hh k1 k2 k3 k4
    rw [if_neg k1, if_neg k2, if_neg k3, if_neg k4, hy] at hl2
    rw [if_neg k1, if_neg k1, if_neg k2, if_neg k2, if_neg k3, if_neg k3, if_neg k4, if_neg k4, hy]
    rw [hy] at ha
    dsimp only at hl2 ⊢
    simp only [all1, Bool.and_true, Bool.and_eq_true] at ha
    have h1 := pg_ge d z (decide (levM z <= levM x)) (pgM d y (decide (levM y < levM x)) (opn wr l) ++ ([32] ++ opTx x.op.toNat ++ [32]))
    rw [List.length_append] at h1
    rw [pg_tx d _ _ ha.2 hl2, pg_tx d _ _ ha.1 (by omega), opn_eq wr l]
    simp only [List.append_assoc]
def opk (wr : Bool) : List K3 := if wr then [(4, [40], 0)] else []
def clk (wr : Bool) : List K3 := if wr then [(4, [41], 0)] else []
def ptk : Nat -> Ex -> Bool -> List K3
 | 0, _, _ => []
 | d + 1, x, wr => opk wr ++ (
  if x.k = 1 then [(3, [], x.n)]
  else if x.k = 2 then [(1, x.s, 0)]
  else if x.k = 3 then [(2, [105, 110], 0), (4, [40], 0), (1, x.s, 0), (4, [41], 0)]
  else if x.k = 4 then (match x.subs with
   | [y] => (4, opTx x.op.toNat, 0) :: ptk d y (decide (levM y < 6))
   | _ => [])
  else (match x.subs with
   | [y, z] => ptk d y (decide (levM y < levM x)) ++ (4, opTx x.op.toNat, 0) :: ptk d z (decide (levM z <= levM x))
   | _ => [])) ++ clk wr
def startB (c : UInt8) : Bool := letterB c || digitB c || c == 40 || c == 45 || c == 33
theorem start_all : ∀ n : Fin 256, startB (UInt8.ofNat n.val) = true -> blankB (UInt8.ofNat n.val) = false /\ (UInt8.ofNat n.val == 47) = false /\ UInt8.ofNat n.val ≠ 61 /\ UInt8.ofNat n.val ≠ 62 := by decide +kernel
theorem start_ok {c : UInt8} (h : startB c = true) : blankB c = false /\ (c == 47) = false /\ c ≠ 61 /\ c ≠ 62 := u8_all (p := fun c => startB c = true -> blankB c = false /\ (c == 47) = false /\ c ≠ 61 /\ c ≠ 62) start_all c h
def endB (c : UInt8) : Bool := [32, 41, 59, 93, 44, 10].contains c
def endR (r : List UInt8) : Prop := ∀ c, r.head? = some c -> endB c = true
theorem end_all : ∀ n : Fin 256, endB (UInt8.ofNat n.val) = true -> wordB (UInt8.ofNat n.val) = false /\ digitB (UInt8.ofNat n.val) = false /\ UInt8.ofNat n.val ≠ 61 /\ UInt8.ofNat n.val ≠ 62 := by decide +kernel
theorem end_ok {c : UInt8} (h : endB c = true) : wordB c = false /\ digitB c = false /\ c ≠ 61 /\ c ≠ 62 := u8_all (p := fun c => endB c = true -> wordB c = false /\ digitB c = false /\ c ≠ 61 /\ c ≠ 62) end_all c h
theorem endR.word {r : List UInt8} (h : endR r) : ∀ (l : List UInt8), (∀ c, c ∈ l -> wordB c = true) -> (l ++ r).takeWhile wordB = l
 | [], _ => by
  cases r with
  | nil => rfl
  | cons c r =>
   rw [List.nil_append, List.takeWhile_cons, if_neg (by rw [(end_ok (h c rfl)).1]; decide)]
 | c :: l, hl => by
  rw [List.cons_append, List.takeWhile_cons, if_pos (hl c (by simp)), h.word l fun x hx => hl x (by simp [hx])]
theorem num_tok {n : Int} (h0 : 0 <= n) (h1 : n <= 9223372036854775807) {r : List UInt8} (hr : endR r) : tokR (Lib.itoa n ++ r) = .ok (3, [], n, (Lib.itoa n).length) := num_tok' h0 h1 fun c h => (end_ok (hr c h)).1
theorem word_tok {s r : List UInt8} (hn : nameM s = true) (hr : endR r) : tokR (s ++ r) = .ok (1, s, 0, s.length) := by
 unfold nameM at hn
 simp only [Bool.and_eq_true] at hn
 obtain ⟨⟨⟨h1, h2⟩, h3⟩, h4⟩ := hn
 obtain ⟨h1, h5⟩ := of_decide_eq_true h1
 have h3 := of_decide_eq_true h3
 have h4 : wordsL.contains s = false := by simpa using h4
 have hw := hr.word s fun c hc => by rw [<- h3] at hc; exact while_all c hc
 have hwr : wordR (s ++ r) = .ok (1, s, 0, s.length) := by
  unfold wordR
  rw [hw, if_neg (by omega), h4]
  rfl
 cases s with
 | nil => exact absurd rfl h1
 | cons c s =>
  have e : tokR (c :: s ++ r) = if letterB c then wordR (c :: s ++ r) else if digitB c then numR (c :: s ++ r) else signR (c :: s ++ r) := rfl
  have h2 : letterB c = true := h2
  rw [e, h2, if_pos rfl, hwr]
theorem op_tok {op : Nat} (h1 : 1 <= op) (h2 : op <= 13) (r : List UInt8) : tokR (opTx op ++ 32 :: r) = .ok (4, opTx op, 0, (opTx op).length) /\ skN false (opTx op ++ 32 :: r) = 0 := by
 match op, h1, h2 with
 | 1, _, _ => exact ⟨rfl, rfl⟩
 | 2, _, _ => exact ⟨rfl, rfl⟩
 | 3, _, _ => exact ⟨rfl, rfl⟩
 | 4, _, _ => exact ⟨rfl, rfl⟩
 | 5, _, _ => exact ⟨rfl, rfl⟩
 | 6, _, _ => exact ⟨rfl, rfl⟩
 | 7, _, _ => exact ⟨rfl, rfl⟩
 | 8, _, _ => exact ⟨rfl, rfl⟩
 | 9, _, _ => exact ⟨rfl, rfl⟩
 | 10, _, _ => exact ⟨rfl, rfl⟩
 | 11, _, _ => exact ⟨rfl, rfl⟩
 | 12, _, _ => exact ⟨rfl, rfl⟩
 | 13, _, _ => exact ⟨rfl, rfl⟩
theorem tx_head : ∀ (d : Nat) {x : Ex} (wr : Bool), shapeM d x = true -> numOk d x -> ∃ c t, txM d x wr = c :: t /\ startB c = true
 | 0, x, wr, h, _ => by cases h
 | d + 1, x, true, h, _ => ⟨40, _, rfl, by decide⟩
 | d + 1, x, false, h, ⟨hn, hs⟩ => by
  rw [shapeM, Bool.and_eq_true] at h
  obtain ⟨hh, ha⟩ := h
  have e : txM (d + 1) x false = (
  if x.k = 1 then Lib.itoa x.n
  else if x.k = 2 then x.s
  else if x.k = 3 then [105, 110, 40] ++ x.s ++ [41]
  else if x.k = 4 then (match x.subs with
   | [y] => opTx x.op.toNat ++ txM d y (decide (levM y < 6))
   | _ => [])
  else (match x.subs with
   | [y, z] => txM d y (decide (levM y < levM x)) ++ ([32] ++ opTx x.op.toNat ++ [32]) ++ txM d z (decide (levM z <= levM x))
   | _ => [])) := rfl
  rw [e]
  by_cases k1 : x.k = 1
  · rw [if_pos k1]
    have h0 : 0 <= x.n := by
     rw [headM, if_pos k1] at hh
     have := (eqM_t hh).1
     split at this <;> omega
    rw [itoa_nat h0]
    cases hm : Lib.decDigits x.n.toNat with
    | nil => exact absurd hm (dec_ne _)
    | cons c m =>
     have := dec_all x.n.toNat c (by rw [hm]; simp)
     exact ⟨c, m, rfl, by unfold startB; rw [this]; simp⟩
  have name : nameM x.s = true -> ∃ c t, x.s = c :: t /\ startB c = true := fun hn => by
   unfold nameM at hn
   simp only [Bool.and_eq_true] at hn
   obtain ⟨⟨⟨h1, h2⟩, h3⟩, h4⟩ := hn
   cases hs : x.s with
   | nil => rw [hs] at h2; cases h2
   | cons c t =>
    rw [hs] at h2
    have h2 : letterB c = true := h2
    exact ⟨c, t, rfl, by unfold startB; rw [h2]; simp⟩
  by_cases k2 : x.k = 2
  · rw [if_neg k1, if_pos k2]
    exact name (head23 hh (.inl k2))
  by_cases k3 : x.k = 3
  · rw [if_neg k1, if_neg k2, if_pos k3]
    exact ⟨105, _, rfl, by decide⟩
  by_cases k4 : x.k = 4
  · obtain ⟨y, hy, ho⟩ := head4 hh k4
    rw [if_neg k1, if_neg k2, if_neg k3, if_pos k4, hy]
    rcases ho with ho | ho
    · rw [ho]; exact ⟨45, _, rfl, by decide⟩
    · rw [ho]; exact ⟨33, _, rfl, by decide⟩
  · obtain ⟨_, y, z, hy, _⟩ := head5 hh k1 k2 k3 k4
    rw [if_neg k1, if_neg k2, if_neg k3, if_neg k4, hy]
    rw [hy] at ha hs
    simp only [all1, Bool.and_true, Bool.and_eq_true] at ha
    obtain ⟨c, t, h1, h2⟩ := tx_head d (decide (levM y < levM x)) ha.1 (hs y (by simp))
    dsimp only
    rw [h1]
    exact ⟨c, _, rfl, h2⟩
theorem soft_start {r : List UInt8} (h : ∃ c t, r = c :: t /\ startB c = true) : soft r := by
 obtain ⟨c, t, rfl, hs⟩ := h
 intro d hd
 simp only [List.head?_cons, Option.some.injEq] at hd
 subst hd
 exact ⟨(start_ok hs).2.2.1, (start_ok hs).2.2.2⟩
theorem endR.soft {r : List UInt8} (h : endR r) : soft r := fun d hd => (end_ok (h d hd)).2.2
theorem start_app {a b : List UInt8} (h : ∃ c t, a = c :: t /\ startB c = true) : ∃ c t, a ++ b = c :: t /\ startB c = true := by
 obtain ⟨c, t, rfl, hs⟩ := h
 exact ⟨c, t ++ b, rfl, hs⟩
theorem skip1 {l : List UInt8} {i : Nat} {r : List UInt8} (h : l.drop i = 32 :: r) (hr : skN false r = 0) : toks l i = toks l (i + 1) := by
 have hi : i <= l.length := by
  refine Decidable.byContradiction fun hn => ?_
  rw [List.drop_of_length_le (by omega)] at h
  cases h
 rw [toks_skip hi, h, skN, if_pos (by decide), hr]
theorem tx_toks {l : List UInt8} : ∀ (d : Nat) {x : Ex} (wr : Bool) (i : Nat) {r : List UInt8} {ts : List Tk}, shapeM d x = true -> numOk d x -> i <= l.length -> l.drop i = txM d x wr ++ r -> endR r -> toks l (i + (txM d x wr).length) = .ok ts -> ∃ us, toks l i = .ok (us ++ ts) /\ us.map k3 = ptk d x wr
 | 0, x, wr, i, r, ts, h, _, _, _, _, _ => by cases h
 | d + 1, x, wr, i, r, ts, h, ⟨hn, hs⟩, hi, hl, hr, ht => by
  have hsh := h
  rw [shapeM, Bool.and_eq_true] at h
  obtain ⟨hh, ha⟩ := h
  have core : ∀ (i : Nat) {r : List UInt8} {ts : List Tk}, i <= l.length -> l.drop i = txM (d + 1) x false ++ r -> endR r -> toks l (i + (txM (d + 1) x false).length) = .ok ts -> ∃ us, toks l i = .ok (us ++ ts) /\ us.map k3 = ptk (d + 1) x false := by
   intro i r ts hi hl hr ht
   have e : txM (d + 1) x false = (
   if x.k = 1 then Lib.itoa x.n
   else if x.k = 2 then x.s
   else if x.k = 3 then [105, 110, 40] ++ x.s ++ [41]
   else if x.k = 4 then (match x.subs with
    | [y] => opTx x.op.toNat ++ txM d y (decide (levM y < 6))
    | _ => [])
   else (match x.subs with
    | [y, z] => txM d y (decide (levM y < levM x)) ++ ([32] ++ opTx x.op.toNat ++ [32]) ++ txM d z (decide (levM z <= levM x))
    | _ => [])) := rfl
   have e2 : ptk (d + 1) x false = (
   if x.k = 1 then [(3, [], x.n)]
   else if x.k = 2 then [(1, x.s, 0)]
   else if x.k = 3 then [(2, [105, 110], 0), (4, [40], 0), (1, x.s, 0), (4, [41], 0)]
   else if x.k = 4 then (match x.subs with
    | [y] => (4, opTx x.op.toNat, 0) :: ptk d y (decide (levM y < 6))
    | _ => [])
   else (match x.subs with
    | [y, z] => ptk d y (decide (levM y < levM x)) ++ (4, opTx x.op.toNat, 0) :: ptk d z (decide (levM z <= levM x))
    | _ => [])) ++ [] := rfl
   rw [List.append_nil] at e2
   obtain ⟨c0, t0, hc0, hst0⟩ := tx_head (d + 1) false hsh ⟨hn, hs⟩
   have hsk : skN false (txM (d + 1) x false ++ r) = 0 := by
    rw [hc0, List.cons_append]
    exact sk0 (start_ok hst0).1 (start_ok hst0).2.1
   have hne : txM (d + 1) x false ≠ [] := by rw [hc0]; simp
   by_cases k1 : x.k = 1
   · rw [if_pos k1] at e e2
     have h0 : 0 <= x.n := by
      rw [headM, if_pos k1] at hh
      have := (eqM_t hh).1
      split at this <;> omega
     rw [e2]
     exact ⟨[⟨3, [], x.n, (i : Nat)⟩], tok_n hl hne hsk (by rw [e]; exact num_tok h0 hn.2 hr) ht, rfl⟩
   by_cases k2 : x.k = 2
   · rw [if_neg k1, if_pos k2] at e e2
     rw [e2]
     exact ⟨[⟨1, x.s, 0, (i : Nat)⟩], tok_n hl hne hsk (by rw [e]; exact word_tok (head23 hh (.inl k2)) hr) ht, rfl⟩
   by_cases k3' : x.k = 3
   · rw [if_neg k1, if_neg k2, if_pos k3'] at e e2
     have hnm := head23 hh (.inr k3')
     obtain ⟨cs, tss, hcs, hsts⟩ : ∃ c t, x.s = c :: t /\ startB c = true := by
      have hnm' := hnm
      unfold nameM at hnm'
      simp only [Bool.and_eq_true] at hnm'
      obtain ⟨⟨⟨_, h2⟩, _⟩, _⟩ := hnm'
      cases hs : x.s with
      | nil => rw [hs] at h2; cases h2
      | cons c t =>
       rw [hs] at h2
       have h2 : letterB c = true := h2
       exact ⟨c, t, rfl, by unfold startB; rw [h2]; simp⟩
     have a0 : l.drop i = [105, 110] ++ ([40] ++ (x.s ++ ([41] ++ r))) := by rw [hl, e]; simp
     have a1 := drop_app a0
     have a2 := drop_app a1
     have a3 := drop_app a2
     have len : (txM (d + 1) x false).length = 2 + 1 + x.s.length + 1 := by rw [e]; simp; omega
     have ht : toks l (i + ([105, 110] : List UInt8).length + ([40] : List UInt8).length + x.s.length + ([41] : List UInt8).length) = .ok ts := by
      rw [<- ht, len]
      congr 1
      simp only [List.length_cons, List.length_nil]
      omega
     have b3 := tok_n (n := 0) a3 (by simp) (sk0 (by decide) (by decide)) (sign_tok (by decide) (by decide) (by decide) (sign2_soft (by decide) hr.soft)) ht
     have b2 := tok_n (n := 0) (k := 1) (t := x.s) a2 (by rw [hcs]; simp) (by rw [hcs, List.cons_append]; exact sk0 (start_ok hsts).1 (start_ok hsts).2.1) (word_tok hnm fun c hc => by simp only [List.singleton_append, List.head?_cons, Option.some.injEq] at hc; exact hc ▸ rfl) b3
     have b1 := tok_n (n := 0) a1 (by simp) (sk0 (by decide) (by decide)) (sign_tok (by decide) (by decide) (by decide) (sign2_soft (by decide) (soft_start (start_app (a := x.s) (b := [41] ++ r) ⟨cs, tss, hcs, hsts⟩)))) b2
     have b0 := tok_n (n := 0) (k := 2) (t := [105, 110]) a0 (by simp) (sk0 (by decide) (by decide)) rfl b1
     rw [e2]
     exact ⟨[_, _, _, _], b0, rfl⟩
   by_cases k4 : x.k = 4
   · obtain ⟨y, hy, ho⟩ := head4 hh k4
     rw [if_neg k1, if_neg k2, if_neg k3', if_pos k4, hy] at e e2
     dsimp only at e e2
     rw [hy] at ha hs
     simp only [all1, Bool.and_true] at ha
     have hny := hs y (by simp)
     have hst := tx_head d (decide (levM y < 6)) ha hny
     have a0 : l.drop i = opTx x.op.toNat ++ (txM d y (decide (levM y < 6)) ++ r) := by rw [hl, e, List.append_assoc]
     have a1 := drop_app a0
     have ht : toks l (i + (opTx x.op.toNat).length + (txM d y (decide (levM y < 6))).length) = .ok ts := by
      rw [<- ht, e, List.length_append, Nat.add_assoc]
     obtain ⟨us, u1, u2⟩ := tx_toks d (decide (levM y < 6)) _ ha hny (in_of hi a0) a1 hr ht
     have hop : tokR (opTx x.op.toNat ++ (txM d y (decide (levM y < 6)) ++ r)) = .ok (4, opTx x.op.toNat, 0, (opTx x.op.toNat).length) /\ opTx x.op.toNat ≠ [] /\ skN false (opTx x.op.toNat ++ (txM d y (decide (levM y < 6)) ++ r)) = 0 := by
      rcases ho with ho | ho
      · rw [ho]
        exact ⟨sign_tok (c := 45) (by decide) (by decide) (by decide) (sign2_soft (by decide) (soft_start (start_app (a := txM d y (decide (levM y < 6))) (b := r) hst))), by decide, sk0 (by decide) (by decide)⟩
      · rw [ho]
        exact ⟨sign_tok (c := 33) (by decide) (by decide) (by decide) (sign2_soft (by decide) (soft_start (start_app (a := txM d y (decide (levM y < 6))) (b := r) hst))), by decide, sk0 (by decide) (by decide)⟩
     rw [e2]
     exact ⟨⟨4, opTx x.op.toNat, 0, (i : Nat)⟩ :: us, tok_n a0 hop.2.1 hop.2.2 hop.1 u1, by rw [List.map_cons, u2]; rfl⟩
   · obtain ⟨_, y, z, hy, ho1, ho2⟩ := head5 hh k1 k2 k3' k4
     rw [if_neg k1, if_neg k2, if_neg k3', if_neg k4, hy] at e e2
     dsimp only at e e2
     rw [hy] at ha hs
     simp only [all1, Bool.and_true, Bool.and_eq_true] at ha
     have hny := hs y (by simp)
     have hnz := hs z (by simp)
     obtain ⟨cz, tz, hz1, hz2⟩ := tx_head d (decide (levM z <= levM x)) ha.2 hnz
     have hzs : skN false (txM d z (decide (levM z <= levM x)) ++ r) = 0 := by
      rw [hz1, List.cons_append]
      exact sk0 (start_ok hz2).1 (start_ok hz2).2.1
     have hop := op_tok (op := x.op.toNat) (by omega) (by omega) (txM d z (decide (levM z <= levM x)) ++ r)
     have hopn : opTx x.op.toNat ≠ [] := by
      have : ∀ q, q < 14 -> 1 <= q -> opTx q ≠ [] := by decide
      exact this _ (by omega) (by omega)
     have a0 : l.drop i = txM d y (decide (levM y < levM x)) ++ ([32] ++ (opTx x.op.toNat ++ ([32] ++ (txM d z (decide (levM z <= levM x)) ++ r)))) := by rw [hl, e]; simp only [List.append_assoc]
     have a1 := drop_app a0
     have a2 := drop_app a1
     have a3 := drop_app a2
     have a4 := drop_app a3
     have i1 := in_of hi a0
     have i2 := in_of i1 a1
     have i3 := in_of i2 a2
     have i4 := in_of i3 a3
     have ht : toks l (i + (txM d y (decide (levM y < levM x))).length + ([32] : List UInt8).length + (opTx x.op.toNat).length + ([32] : List UInt8).length + (txM d z (decide (levM z <= levM x))).length) = .ok ts := by
      rw [<- ht, e]
      congr 1
      simp only [List.length_append, List.length_cons, List.length_nil]
      omega
     obtain ⟨vs, v1, v2⟩ := tx_toks d (decide (levM z <= levM x)) _ ha.2 hnz i4 a4 hr ht
     have b3 : toks l (i + (txM d y (decide (levM y < levM x))).length + ([32] : List UInt8).length + (opTx x.op.toNat).length) = .ok (vs ++ ts) := by
      exact (skip1 a3 hzs).trans v1
     have b2 := tok_n a2 hopn hop.2 hop.1 b3
     have b1 := (skip1 a1 hop.2).trans b2
     obtain ⟨us, u1, u2⟩ := tx_toks d (decide (levM y < levM x)) i ha.1 hny hi a0 (fun c hc => by simp only [List.singleton_append, List.head?_cons, Option.some.injEq] at hc; exact hc ▸ rfl) b1
     rw [e2]
     exact ⟨us ++ ⟨4, opTx x.op.toNat, 0, _⟩ :: vs, by rw [u1, List.append_assoc]; rfl, by rw [List.map_append, List.map_cons, u2, v2]; rfl⟩
  cases wr with
  | false => exact core i hi hl hr ht
  | true =>
   have e : txM (d + 1) x true = [40] ++ (txM (d + 1) x false ++ [41]) := by
    unfold txM
    simp [clo, opn]
   have e2 : ptk (d + 1) x true = (4, [40], 0) :: (ptk (d + 1) x false ++ [(4, [41], 0)]) := by
    unfold ptk
    simp [opk, clk]
   have hst := tx_head (d + 1) false hsh ⟨hn, hs⟩
   have a0 : l.drop i = [40] ++ (txM (d + 1) x false ++ ([41] ++ r)) := by rw [hl, e]; simp only [List.append_assoc]
   have a1 := drop_app a0
   have a2 := drop_app a1
   have ht : toks l (i + ([40] : List UInt8).length + (txM (d + 1) x false).length + ([41] : List UInt8).length) = .ok ts := by
    rw [<- ht, e]
    congr 1
    simp only [List.length_append, List.length_cons, List.length_nil]
    omega
   have b2 := tok_n (n := 0) a2 (by simp) (sk0 (by decide) (by decide)) (sign_tok (by decide) (by decide) (by decide) (sign2_soft (by decide) hr.soft)) ht
   obtain ⟨us, u1, u2⟩ := core _ (in_of hi a0) a1 (fun c hc => by simp only [List.singleton_append, List.head?_cons, Option.some.injEq] at hc; exact hc ▸ rfl) b2
   have b0 := tok_n (n := 0) a0 (by simp) (sk0 (by decide) (by decide)) (sign_tok (by decide) (by decide) (by decide) (sign2_soft (by decide) (soft_start (start_app (a := txM (d + 1) x false) (b := [41] ++ r) hst)))) u1
   rw [e2]
   refine ⟨⟨4, [40], 0, (i : Nat)⟩ :: (us ++ [⟨4, [41], 0, ((i + ([40] : List UInt8).length + (txM (d + 1) x false).length : Nat) : Int)⟩]), by rw [b0]; simp only [List.cons_append, List.append_assoc, List.nil_append, List.singleton_append], ?_⟩
   rw [List.map_cons, List.map_append, u2]
   rfl
def At (ts : List Tk) (i : Nat) (L : List K3) : Prop := ∀ j q, L[j]? = some q -> k3 (tk ts (i + j)) = q
section
variable {ts : List Tk} {i : Nat} {A B : List K3}
theorem At.left (h : At ts i (A ++ B)) : At ts i A := fun j q hj => h j q (by rw [List.getElem?_append_left (List.getElem?_eq_some_iff.1 hj).1]; exact hj)
theorem At.right (h : At ts i (A ++ B)) : At ts (i + A.length) B := fun j q hj => by
 have := h (A.length + j) q (by rw [List.getElem?_append_right (by omega), Nat.add_sub_cancel_left]; exact hj)
 rwa [<- Nat.add_assoc] at this
theorem At.head {q : K3} (h : At ts i (q :: A)) : (tk ts i).k = q.1 /\ (tk ts i).t = q.2.1 /\ (tk ts i).n = q.2.2 := by
 have := h 0 q rfl
 rw [Nat.add_zero] at this
 rw [<- this]
 exact ⟨rfl, rfl, rfl⟩
theorem At.tail {q : K3} (h : At ts i (q :: A)) : At ts (i + 1) A := fun j p hj => by
 have := h (j + 1) p hj
 rwa [Nat.add_assoc, Nat.add_comm 1 j]
theorem opTx_inj {p q : Nat} (hp : 1 <= p) (hp2 : p <= 13) (hq : 1 <= q) (hq2 : q <= 13) (h : opTx p = opTx q) : p = q := by
 have : ∀ p, p < 14 -> ∀ q, q < 14 -> 1 <= p -> 1 <= q -> opTx p = opTx q -> p = q := by decide
 exact this p (by omega) q (by omega) hp hq h
theorem op_at {op : Nat} (h1 : 1 <= op) (h2 : op <= 13) (hk : (tk ts i).k = 4) (ht : (tk ts i).t = opTx op) (k : Int) : opAt ts k i = if rowOf (op : Int) = k then (op : Int) else 0 := by
 have : ∀ (f q : Nat), 1 <= q -> q + f <= 14 -> opFrom ts k i f q = if q <= op /\ op < q + f /\ rowOf (op : Int) = k then (op : Int) else 0 := by
  intro f
  induction f with
  | zero => intro q _ _; rw [if_neg (by omega)]; rfl
  | succ f ih =>
   intro q hq hf
   rw [opFrom, ih (q + 1) (by omega) (by omega)]
   by_cases he : q = op
   · subst he
     have hs : sg ts i (opTx q) = true := sg_t ⟨hk, ht⟩
     by_cases hr : rowOf (q : Int) = k
     · rw [if_pos ⟨hr, hs⟩, if_pos ⟨Nat.le_refl _, by omega, hr⟩]
     · rw [if_neg (fun h => hr h.1), if_neg (by omega), if_neg (fun h => hr h.2.2)]
   · have hs : ¬ sg ts i (opTx q) = true := fun hs => he (by
      simp only [sg, Bool.and_eq_true, decide_eq_true_eq] at hs
      exact opTx_inj hq (by omega) h1 h2 (by rw [<- ht, hs.2]))
     rw [if_neg (fun h => hs h.2)]
     by_cases hc : q + 1 <= op /\ op < q + 1 + f /\ rowOf (op : Int) = k
     · rw [if_pos hc, if_pos ⟨by omega, by omega, hc.2.2⟩]
     · rw [if_neg hc, if_neg (fun h => hc ⟨by omega, by omega, h.2.2⟩)]
 rw [opAt, this 13 1 (by omega) (by omega)]
 by_cases hr : rowOf (op : Int) = k
 · rw [if_pos hr, if_pos ⟨h1, by omega, hr⟩]
 · rw [if_neg hr, if_neg (fun h => hr h.2.2)]
theorem row_rng {op : Int} (h1 : 1 <= op) (h2 : op <= 13) : 0 <= rowOf op /\ rowOf op <= 5 := by
 unfold rowOf
 split
 · omega
 split
 · omega
 split
 · omega
 split
 · omega
 split
 · omega
 split
 · omega
 · omega
theorem down_ok {f d k0 : Nat} {x : Ex} {j : Nat} (h : exprR ts f k0 d i = .ok (x, j)) (h6 : k0 <= 6) : ∀ (m k : Nat), k + m = k0 -> (∀ q : Int, (k : Int) <= q -> q < (k0 : Int) -> opAt ts q j = 0) -> exprR ts (f + m) k d i = .ok (x, j)
 | 0, k, hk, _ => by
  have : k = k0 := by omega
  subst this
  exact h
 | m + 1, k, hk, h0 => by
  rw [<- Nat.add_assoc, exprR, if_neg (by omega), down_ok h h6 m (k + 1) (by omega) fun q h1 h2 => h0 q (by omega) h2]
  simp only [andR]
  exact loop0 (h0 _ (Int.le_refl _) (by omega)) _
theorem down_err {f d k0 : Nat} {e : Int × Int} (h : exprR ts f k0 d i = .error e) (h6 : k0 <= 6) : ∀ (m k : Nat), k + m = k0 -> exprR ts (f + m) k d i = .error e
 | 0, k, hk => by
  have : k = k0 := by omega
  subst this
  exact h
 | m + 1, k, hk => by
  rw [<- Nat.add_assoc, exprR, if_neg (by omega), down_err h h6 m (k + 1) (by omega)]
  rfl
end
def Ok5 (x : Ex) (j : Nat) (r : Pr) : Prop := (∃ x', r = .ok (x', j) /\ Sim x x') ∨ ∃ a, r = .error (21, a)
theorem Ok5.down {ts : List Tk} {i f d k0 k : Nat} {x : Ex} {j : Nat} (h : Ok5 x j (exprR ts (f - (k0 - k)) k0 d i)) (hf : k0 - k <= f) (h6 : k0 <= 6) (hk : k <= k0) (h0 : ∀ q : Int, (k : Int) <= q -> q < (k0 : Int) -> opAt ts q j = 0) : Ok5 x j (exprR ts f k d i) := by
 have e : f = (f - (k0 - k)) + (k0 - k) := by omega
 rcases h with ⟨x', h1, h2⟩ | ⟨a, h1⟩
 · exact .inl ⟨x', by rw [e]; exact down_ok h1 h6 _ k (by omega) h0, h2⟩
 · exact .inr ⟨a, by rw [e]; exact down_err h1 h6 _ k (by omega)⟩
abbrev PP (ts : List Tk) (d : Nat) : Prop := ∀ {x : Ex} (wr : Bool) (k dd i f : Nat), shapeM d x = true -> At ts i (ptk d x wr) -> k <= 6 -> (wr = false -> (k : Int) <= levM x) -> dd <= 20 -> need k dd <= f -> i + (ptk d x wr).length < ts.length -> (∀ q : Int, (k : Int) <= q -> q <= 5 -> opAt ts q (i + (ptk d x wr).length) = 0) -> Ok5 x (i + (ptk d x wr).length) (exprR ts f k dd i)
abbrev QQ (ts : List Tk) (d : Nat) : Prop := ∀ {x : Ex} (k dd i f : Nat), shapeM d x = true -> x.k = 5 -> (k : Int) = levM x -> At ts i (ptk d x false) -> dd <= 20 -> need k dd <= f + 1 -> i + (ptk d x false).length < ts.length -> (∀ q : Int, (k : Int) < q -> q <= 5 -> opAt ts q (i + (ptk d x false).length) = 0) ->
 (∃ x' g, ts.length - (i + (ptk d x false).length) <= g /\ exprR ts (f + 1) k dd i = loopR ts (exprR ts f (k + 1) dd) k g x' (i + (ptk d x false).length) /\ Sim x x') ∨ ∃ a, exprR ts (f + 1) k dd i = .error (21, a)
theorem ex_eta (x : Ex) : x = .mk x.k x.n x.s x.op x.subs x.a := by cases x; rfl
section
variable {ts : List Tk} {d : Nat}
theorem qq_step (hP : PP ts d) (hQ : QQ ts d) : QQ ts (d + 1) := by
 intro x k dd i f hsh hk5 hkl hat hdd hf hlt h0
 rw [shapeM, Bool.and_eq_true] at hsh
 obtain ⟨hh, ha⟩ := hsh
 obtain ⟨_, y, z, hy, ho1, ho2⟩ := head5 hh (by omega) (by omega) (by omega) (by omega)
 have hnx : x.n = 0 /\ x.s = [] := by
  rw [headM, if_neg (by omega), if_neg (by omega), if_neg (by omega), if_pos hk5, Bool.and_eq_true] at hh
  have := eqM_t hh.2
  exact ⟨this.1, this.2.1⟩
 have hlx : levM x = rowOf x.op := by rw [levM, if_pos hk5]
 obtain ⟨r0, r5⟩ := row_rng ho1 ho2
 have e2 : ptk (d + 1) x false = (ptk d y (decide (levM y < levM x)) ++ (4, opTx x.op.toNat, 0) :: ptk d z (decide (levM z <= levM x))) := by
  rw [ptk, if_neg (by omega), if_neg (by omega), if_neg (by omega), if_neg (by omega), hy]
  simp [opk, clk]
 rw [e2] at hat hlt h0 ⊢
 rw [hy] at ha
 simp only [all1, Bool.and_true, Bool.and_eq_true] at ha
 have hatY := hat.left
 have hatO := hat.right
 have hatZ := hatO.tail
 obtain ⟨t1, t2, _⟩ := hatO.head
 rw [List.length_append, List.length_cons] at hlt h0 ⊢
 generalize hj1 : i + (ptk d y (decide (levM y < levM x))).length = j1 at *
 have hjz : i + ((ptk d y (decide (levM y < levM x))).length + ((ptk d z (decide (levM z <= levM x))).length + 1)) = j1 + 1 + (ptk d z (decide (levM z <= levM x))).length := by omega
 rw [hjz] at hlt h0 ⊢
 generalize hj2 : j1 + 1 + (ptk d z (decide (levM z <= levM x))).length = j2 at *
 have hop : ∀ q : Int, opAt ts q j1 = if rowOf x.op = q then x.op else 0 := fun q => by
  have := op_at (ts := ts) (i := j1) (op := x.op.toNat) (by omega) (by omega) t1 t2 q
  rwa [Int.toNat_of_nonneg (by omega)] at this
 have hex : x = .mk 5 0 [] x.op [y, z] x.a := by
  have := ex_eta x
  rw [hk5, hnx.1, hnx.2, hy] at this
  exact this
 have hneed : need (k + 1) dd <= f := by unfold need at hf ⊢; omega
 have hleft : (∃ y' g, ts.length - j1 <= g /\ exprR ts (f + 1) k dd i = loopR ts (exprR ts f (k + 1) dd) k g y' j1 /\ Sim y y') ∨ ∃ a, exprR ts (f + 1) k dd i = .error (21, a) := by
  by_cases hB : levM y = levM x
  · have hwr : decide (levM y < levM x) = false := decide_eq_false (by omega)
    have hy5 : y.k = 5 := by
     refine Decidable.byContradiction fun hn => ?_
     have : levM y = 6 := by rw [levM, if_neg hn]
     omega
    rw [hwr] at hatY hj1
    have := hQ (x := y) k dd i f ha.1 hy5 (by rw [hB]; exact hkl) hatY hdd hf (by omega) (fun q h1 h2 => by rw [hj1, hop, if_neg (by omega)])
    rw [hj1] at this
    exact this
  · have := hP (x := y) (decide (levM y < levM x)) (k + 1) dd i f ha.1 hatY (by omega) (fun hw => by have := of_decide_eq_false hw; omega) hdd hneed (by omega) (fun q h1 h2 => by rw [hj1, hop, if_neg (by omega)])
    rw [hj1] at this
    rw [exprR, if_neg (by omega)]
    rcases this with ⟨y', h1, h2⟩ | ⟨a, h1⟩
    · exact .inl ⟨y', ts.length - j1, Nat.le_refl _, by rw [h1]; rfl, h2⟩
    · exact .inr ⟨a, by rw [h1]; rfl⟩
 refine hleft.elim (fun ⟨y', g, hg, h1, h2⟩ => ?_) .inr
 obtain ⟨g, rfl⟩ : ∃ m, g = m + 1 := ⟨g - 1, by omega⟩
 have hok : opAt ts (k : Int) j1 = x.op := by rw [hop, if_pos (by omega)]
 have hz := hP (x := z) (decide (levM z <= levM x)) (k + 1) dd (j1 + 1) f ha.2 hatZ (by omega) (fun hw => by have := of_decide_eq_false hw; omega) hdd hneed (by omega) (fun q h1 h2 => by rw [hj2]; exact h0 q (by omega) h2)
 rw [hj2] at hz
 rw [h1, loopR, hok, if_neg (by omega)]
 rcases hz with ⟨z', h3, h4⟩ | ⟨a, h3⟩
 · refine .inl ⟨.mk 5 0 [] x.op [y', z'] y'.a, g, by omega, by rw [h3]; rfl, ?_⟩
   rw [hex]
   exact .two _ _ _ _ _ _ _ _ _ _ h2 h4
 · exact .inr ⟨a, by rw [h3]; rfl⟩
theorem pp_step (hP : PP ts d) (hQ : QQ ts d) : PP ts (d + 1) := by
 have plain : ∀ {x : Ex} (k dd i f : Nat), shapeM (d + 1) x = true -> At ts i (ptk (d + 1) x false) -> k <= 6 -> (k : Int) <= levM x -> dd <= 20 -> need k dd <= f -> i + (ptk (d + 1) x false).length < ts.length -> (∀ q : Int, (k : Int) <= q -> q <= 5 -> opAt ts q (i + (ptk (d + 1) x false).length) = 0) -> Ok5 x (i + (ptk (d + 1) x false).length) (exprR ts f k dd i) := by
  intro x k dd i f hsh hat hk6 hkl hdd hf hlt h0
  have hsh0 := hsh
  rw [shapeM, Bool.and_eq_true] at hsh
  obtain ⟨hh, ha⟩ := hsh
  by_cases hk5 : x.k = 5
  · obtain ⟨_, y, z, hy, ho1, ho2⟩ := head5 hh (by omega) (by omega) (by omega) (by omega)
    have hlx : levM x = rowOf x.op := by rw [levM, if_pos hk5]
    obtain ⟨r0, r5⟩ := row_rng ho1 ho2
    obtain ⟨k0, hk0⟩ : ∃ k0 : Nat, (k0 : Int) = levM x := ⟨(levM x).toNat, by omega⟩
    refine Ok5.down (k0 := k0) ?_ (by unfold need at hf; omega) (by omega) (by omega) fun q h1 h2 => h0 q h1 (by omega)
    obtain ⟨f', hf'⟩ : ∃ m, f - (k0 - k) = m + 1 := ⟨f - (k0 - k) - 1, by unfold need at hf; omega⟩
    rw [hf']
    rcases qq_step hP hQ k0 dd i f' hsh0 hk5 hk0 hat hdd (by unfold need at hf ⊢; omega) hlt (fun q h1 h2 => h0 q (by omega) h2) with ⟨x', g, hg, h1, h2⟩ | h
    · exact .inl ⟨x', by rw [h1]; exact loop0 (h0 _ (by omega) (by omega)) _, h2⟩
    · exact .inr h
  · have hlx : levM x = 6 := by rw [levM, if_neg hk5]
    refine Ok5.down (k0 := 6) ?_ (by unfold need at hf; omega) (by omega) (by omega) fun q h1 h2 => h0 q h1 (by omega)
    obtain ⟨f', hf'⟩ : ∃ m, f - (6 - k) = m + 1 := ⟨f - (6 - k) - 1, by unfold need at hf; omega⟩
    have hneed : (20 - dd) * 8 <= f' := by unfold need at hf; omega
    rw [hf', exprR, if_pos rfl]
    unfold oneR
    by_cases k1 : x.k = 1
    · have e2 : ptk (d + 1) x false = [(3, [], x.n)] := by rw [ptk, if_pos k1]; rfl
      rw [e2] at hat ⊢
      obtain ⟨t1, t2, t3⟩ := hat.head
      dsimp only at t1 t2 t3
      rw [sg_f t2 (by decide), sg_f t2 (by decide), sg_f t2 (by decide), if_neg (by decide), if_neg (by decide), if_pos t1, t3]
      refine .inl ⟨_, rfl, ?_⟩
      rw [headM, if_pos k1] at hh
      obtain ⟨_, b2, b3, b4⟩ := eqM_t hh
      have hs : x.subs = [] := List.eq_nil_of_length_eq_zero (by omega)
      have := ex_eta x
      rw [k1, b2, b3, hs] at this
      rw [this]
      exact .leaf ..
    by_cases k2 : x.k = 2
    · have e2 : ptk (d + 1) x false = [(1, x.s, 0)] := by rw [ptk, if_neg k1, if_pos k2]; rfl
      rw [e2] at hat ⊢
      obtain ⟨t1, t2, t3⟩ := hat.head
      dsimp only at t1 t2 t3
      have hs4 : ∀ s, sg ts i s = false := fun s => by unfold sg; rw [t1]; rfl
      rw [hs4, hs4, hs4, if_neg (by decide), if_neg (by decide), if_neg (by rw [t1]; decide), if_pos t1, t2]
      refine .inl ⟨_, rfl, ?_⟩
      rw [headM, if_neg k1, if_pos (.inl k2), Bool.and_eq_true] at hh
      obtain ⟨b1, b2, b3, b4⟩ := eqM_t hh.2
      have hs : x.subs = [] := List.eq_nil_of_length_eq_zero (by omega)
      have := ex_eta x
      rw [k2, b1, b3, hs] at this
      rw [this]
      exact .leaf ..
    by_cases k3' : x.k = 3
    · have e2 : ptk (d + 1) x false = [(2, [105, 110], 0), (4, [40], 0), (1, x.s, 0), (4, [41], 0)] := by rw [ptk, if_neg k1, if_neg k2, if_pos k3']; rfl
      rw [e2] at hat ⊢
      obtain ⟨t1, t2, t3⟩ := hat.head
      obtain ⟨u1, u2, u3⟩ := hat.tail.head
      obtain ⟨v1, v2, v3⟩ := hat.tail.tail.head
      obtain ⟨p1, p2, p3⟩ := hat.tail.tail.tail.head
      dsimp only at t1 t2 t3 u1 u2 u3 v1 v2 v3 p1 p2 p3
      have hs4 : ∀ s, sg ts i s = false := fun s => by unfold sg; rw [t1]; rfl
      rw [hs4, hs4, hs4, if_neg (by decide), if_neg (by decide), if_neg (by rw [t1]; decide), if_neg (by rw [t1]; decide), if_pos ⟨t1, t2⟩]
      unfold inR
      rw [if_pos (sg_t ⟨u1, u2⟩), if_pos v1, if_pos (sg_t ⟨p1, p2⟩)]
      refine .inl ⟨_, rfl, ?_⟩
      rw [headM, if_neg k1, if_pos (.inr k3'), Bool.and_eq_true] at hh
      obtain ⟨b1, b2, b3, b4⟩ := eqM_t hh.2
      have hs : x.subs = [] := List.eq_nil_of_length_eq_zero (by omega)
      have := ex_eta x
      rw [k3', b1, b3, hs] at this
      have v2 : (tk ts (i + 2)).t = x.s := v2
      rw [v2, this]
      exact .leaf ..
    have k4 : x.k = 4 := Decidable.byContradiction fun k4 => hk5 (head5 hh k1 k2 k3' k4).1
    obtain ⟨y, hy, ho⟩ := head4 hh k4
    have e2 : ptk (d + 1) x false = (4, opTx x.op.toNat, 0) :: ptk d y (decide (levM y < 6)) := by
     rw [ptk, if_neg k1, if_neg k2, if_neg k3', if_pos k4, hy]
     simp [opk, clk]
    rw [e2] at hat hlt ⊢
    rw [hy] at ha
    simp only [all1, Bool.and_true] at ha
    obtain ⟨t1, t2, t3⟩ := hat.head
    dsimp only at t1 t2 t3
    have hor : (sg ts i [45] || sg ts i [33]) = true := by
     rcases ho with ho | ho
     · have : sg ts i [45] = true := sg_t ⟨t1, by rw [t2, ho]; rfl⟩
       rw [this, Bool.true_or]
     · have : sg ts i [33] = true := sg_t ⟨t1, by rw [t2, ho]; rfl⟩
       rw [this, Bool.or_true]
    rw [if_pos hor]
    by_cases h20 : dd = 20
    · exact .inr ⟨(tk ts i).a, by rw [nestR, if_pos h20]; rfl⟩
    rw [nestR, if_neg h20]
    rw [List.length_cons] at hlt ⊢
    have hj : i + ((ptk d y (decide (levM y < 6))).length + 1) = i + 1 + (ptk d y (decide (levM y < 6))).length := by omega
    rw [hj] at hlt ⊢
    have hy6 : levM y <= 6 := by
     unfold levM rowOf
     split
     · split
       · omega
       split
       · omega
       split
       · omega
       split
       · omega
       split
       · omega
       split
       · omega
       · omega
     · omega
    rcases hP (x := y) (decide (levM y < 6)) 6 (dd + 1) (i + 1) f' ha hat.tail (Nat.le_refl _) (fun hw => by have := of_decide_eq_false hw; omega) (by omega) (by unfold need; omega) hlt (fun q h1 h2 => by omega) with ⟨y', h1, h2⟩ | ⟨a, h1⟩
    · refine .inl ⟨_, by rw [h1]; rfl, ?_⟩
      rw [headM, if_neg k1, if_neg (by omega), if_pos k4] at hh
      obtain ⟨b1, b2, b3, b4⟩ := eqM_t hh
      have hop : (if (tk ts i).t = [33] then (15 : Int) else 14) = x.op := by
       rcases ho with ho | ho
       · rw [t2, ho]; rfl
       · rw [t2, ho]; rfl
      have := ex_eta x
      rw [k4, b1, b2, hy] at this
      rw [hop, this]
      exact .one _ _ _ _ _ _ _ _ h2
    · exact .inr ⟨a, by rw [h1]; rfl⟩
 intro x wr k dd i f hsh hat hk6 hkl hdd hf hlt h0
 cases wr with
 | false => exact plain k dd i f hsh hat hk6 (hkl rfl) hdd hf hlt h0
 | true =>
  have e2 : ptk (d + 1) x true = (4, [40], 0) :: (ptk (d + 1) x false ++ [(4, [41], 0)]) := by
   unfold ptk
   simp [opk, clk]
  refine Ok5.down (k0 := 6) ?_ (by unfold need at hf; omega) (by omega) (by omega) fun q h1 h2 => h0 q h1 (by omega)
  rw [e2] at hat hlt ⊢
  obtain ⟨f', hf'⟩ : ∃ m, f - (6 - k) = m + 1 := ⟨f - (6 - k) - 1, by unfold need at hf; omega⟩
  have hneed : (20 - dd) * 8 <= f' := by unfold need at hf; omega
  obtain ⟨t1, t2, t3⟩ := hat.head
  have hin := hat.tail.left
  obtain ⟨p1, p2, p3⟩ := hat.tail.right.head
  dsimp only at t1 t2 t3 p1 p2 p3
  rw [hf', exprR, if_pos rfl]
  unfold oneR
  rw [sg_f t2 (by decide), sg_f t2 (by decide), sg_t ⟨t1, t2⟩, if_neg (by decide), if_pos rfl]
  by_cases h20 : dd = 20
  · exact .inr ⟨(tk ts i).a, by rw [nestR, if_pos h20]⟩
  rw [nestR, if_neg h20]
  rw [List.length_cons, List.length_append, List.length_singleton] at hlt ⊢
  have hj : i + ((ptk (d + 1) x false).length + 1 + 1) = i + 1 + (ptk (d + 1) x false).length + 1 := by omega
  rw [hj] at hlt ⊢
  have hlev : 0 <= levM x := by
   unfold levM rowOf
   split
   · split
     · omega
     split
     · omega
     split
     · omega
     split
     · omega
     split
     · omega
     split
     · omega
     · omega
   · omega
  rcases plain 0 (dd + 1) (i + 1) f' hsh hin (by omega) (by omega) (by omega) (by unfold need; omega) (by omega) (fun q h1 h2 => op_of p2 (by decide) q) with ⟨x', h1, h2⟩ | ⟨a, h1⟩
  · refine .inl ⟨x', ?_, h2⟩
    rw [h1]
    simp only [parR]
    rw [if_pos (sg_t ⟨p1, p2⟩)]
  · exact .inr ⟨a, by rw [h1]; rfl⟩
theorem pp_qq (ts : List Tk) : ∀ d, PP ts d /\ QQ ts d
 | 0 => ⟨(by intro x wr k dd i f h; cases h), (by intro x k dd i f h; cases h)⟩
 | d + 1 => ⟨pp_step (pp_qq ts d).1 (pp_qq ts d).2, qq_step (pp_qq ts d).1 (pp_qq ts d).2⟩
end
theorem back_law {d : Nat} {x : Ex} (hs : shapeM d x = true) (hn : numOk d x) (hr : (readA (pgM d x false [])).2.1 = 0) : (pgM d x false []).length <= 16384 /\ Sim x (readA (pgM d x false [])).1 := by
 have hlen : (pgM d x false []).length <= 16384 := by
  refine Decidable.byContradiction fun hc => ?_
  unfold readA at hr
  have : tokensM (pgM d x false []) = ([], 2, -1) := by rw [tokensM, if_pos (by omega)]
  rw [this, if_pos (by decide)] at hr
  exact absurd hr (show ¬ (2 : Int) = 0 by decide)
 refine ⟨hlen, ?_⟩
 have htx := pg_tx d false [] hs hlen
 rw [List.nil_append] at htx
 rw [htx] at hr hlen ⊢
 generalize hL : txM d x false = L at *
 have hend : toks L (0 + L.length) = .ok [⟨5, [], 0, ((L.length : Nat) : Int)⟩] := by
  have hd : L.drop L.length = [] := List.drop_of_length_le (Nat.le_refl _)
  have h5 : skN false [] = 0 := rfl
  rw [Nat.zero_add, toks_step (Nat.le_refl _), hd, h5, if_pos (by omega)]
  rfl
 obtain ⟨us, h1, h2⟩ := tx_toks (l := L) d (x := x) false 0 (r := []) hs hn (Nat.zero_le _) (by rw [List.drop_zero, List.append_nil, hL]) (fun c hc => by cases hc) (by rw [hL]; exact hend)
 generalize hts : us ++ [(⟨5, [], 0, ((L.length : Nat) : Int)⟩ : Tk)] = ts at *
 have t1 : tokensM L = (ts, 0, 0) := by
  rw [tokensM, if_neg (by omega), h1]
 have hul : us.length = (ptk d x false).length := by rw [<- h2, List.length_map]
 have htl : ts.length = us.length + 1 := by rw [<- hts, List.length_append, List.length_singleton]
 have hat : At ts 0 (ptk d x false) := fun j q hj => by
  rw [<- h2, List.getElem?_map, Option.map_eq_some_iff] at hj
  obtain ⟨t, g1, rfl⟩ := hj
  have : tk ts (0 + j) = t := by
   unfold tk
   rw [<- hts, Nat.zero_add, List.getElem?_append_left (List.getElem?_eq_some_iff.1 g1).1, g1]
   rfl
  rw [this]
 have hke : (tk ts us.length).k = 5 := by
  unfold tk
  rw [<- hts, List.getElem?_append_right (Nat.le_refl _), Nat.sub_self]
  rfl
 have hlev : 0 <= levM x := by
  unfold levM rowOf
  split
  · split
    · omega
    split
    · omega
    split
    · omega
    split
    · omega
    split
    · omega
    split
    · omega
    · omega
  · omega
 have hP := (pp_qq ts d).1 (x := x) false 0 0 0 (need 0 0) hs hat (by decide) (fun _ => by omega) (by decide) (Nat.le_refl _) (by omega) (fun q _ _ => op_end (by rw [Nat.zero_add, <- hul]; exact hke) q)
 have hpr : parseR ts 0 = exprR ts (need 0 0) 0 0 0 := rfl
 rw [<- hpr] at hP
 have hrd : readA L = if (parseA ts 0).2.2.1 ≠ 0 then (ex0, (parseA ts 0).2.2.1, (parseA ts 0).2.2.2) else if (tk ts (parseA ts 0).2.1.toNat).k ≠ 5 then (ex0, 4, (tk ts (parseA ts 0).2.1.toNat).a) else ((parseA ts 0).1, 0, (parseA ts 0).2.2.2) := by
  unfold readA
  rw [t1]
  rfl
 rw [hrd] at hr ⊢
 have hpa : parseA ts 0 = if 0 < ts.length /\ endN ts + 1 = ts.length then (match parseR ts 0 with
  | .error (c, p) => (ex0, 0, c, p)
  | .ok (x, j) => (x, (j : Int), 0, 0)) else (ex0, 0, 1, -1) := by
  unfold parseA
  by_cases hc : 0 < ts.length /\ endN ts + 1 = ts.length
  · rw [if_pos hc, if_pos ⟨Int.le_refl _, by omega, hc.2⟩]
    rfl
  · rw [if_neg hc, if_neg (fun hh => hc ⟨by omega, hh.2.2⟩)]
 rw [hpa] at hr ⊢
 have hc : 0 < ts.length /\ endN ts + 1 = ts.length := Decidable.byContradiction fun hc => by
  rw [if_neg hc, if_pos (by decide)] at hr
  exact absurd hr (show ¬ (1 : Int) = 0 by decide)
 rw [if_pos hc] at hr ⊢
 rcases hP with ⟨x', g1, g2⟩ | ⟨a, g1⟩
 · rw [g1] at hr ⊢
   dsimp only at hr ⊢
   rw [if_neg (by decide), Int.toNat_natCast, Nat.zero_add, <- hul, hke, if_neg (by decide)]
   exact g2
 · rw [g1] at hr
   dsimp only at hr
   rw [if_pos (by decide)] at hr
   exact absurd hr (show ¬ (21 : Int) = 0 by decide)
structure Em (ts ts' : List Tk) (n o : Nat) : Prop where
 e : ∀ i, n <= i -> (tk ts i).k = 5
 s : ∀ i, i < n -> (tk ts' (o + i)).k = (tk ts i).k /\ (tk ts' (o + i)).t = (tk ts i).t /\ (tk ts' (o + i)).n = (tk ts i).n
 c : (tk ts' (o + n)).k = 4 /\ ((tk ts' (o + n)).t = [59] ∨ (tk ts' (o + n)).t = [93])
def Rm (n o : Nat) (r r' : Pr) : Prop := ∀ x j, r = .ok (x, j) -> ∃ x', r' = .ok (x', o + j) /\ Sim x x' /\ j <= n
theorem opTx_ne2 (op : Nat) : opTx op ≠ [59] /\ opTx op ≠ [93] := by
 rcases Nat.lt_or_ge op 16 with h | h
 · have : ∀ q, q < 16 -> opTx q ≠ [59] /\ opTx q ≠ [93] := by decide
   exact this op h
 · unfold opTx
   rw [List.getElem?_eq_none (by exact h)]
   decide
section
variable {ts ts' : List Tk} {n o : Nat}
theorem Em.lt (h : Em ts ts' n o) {i : Nat} (hk : (tk ts i).k ≠ 5) : i < n := Decidable.byContradiction fun hn => hk (h.e i (by omega))
theorem Em.sgl (h : Em ts ts' n o) {i : Nat} (hi : i < n) (s : List UInt8) : sg ts' (o + i) s = sg ts i s := by
 unfold sg
 obtain ⟨h1, h2, _⟩ := h.s i hi
 rw [h1, h2]
theorem Em.sgn (h : Em ts ts' n o) {i : Nat} (hi : i <= n) {s : List UInt8} (h1 : s ≠ [59]) (h2 : s ≠ [93]) : sg ts' (o + i) s = sg ts i s := by
 rcases Nat.lt_or_ge i n with hl | hl
 · exact h.sgl hl s
 · have : i = n := by omega
   subst this
   unfold sg
   rw [h.e i (Nat.le_refl _)]
   have : decide ((tk ts' (o + i)).t = s) = false := decide_eq_false fun e => by
    rcases h.c.2 with c | c
    · exact h1 (by rw [<- e, c])
    · exact h2 (by rw [<- e, c])
   rw [this, Bool.and_false]
   rfl
theorem Em.opf (h : Em ts ts' n o) {i : Nat} (hi : i <= n) (k : Int) : ∀ (f op : Nat), opFrom ts' k (o + i) f op = opFrom ts k i f op
 | 0, _ => rfl
 | f + 1, op => by rw [opFrom, opFrom, h.sgn hi (opTx_ne2 op).1 (opTx_ne2 op).2, h.opf hi k f]
theorem Em.op (h : Em ts ts' n o) {i : Nat} (hi : i <= n) (k : Int) : opAt ts' k (o + i) = opAt ts k i := h.opf hi k 13 1
theorem Rm.map {r r' : Pr} (h : Rm n o r r') {g g' : Ex -> Ex} (hg : ∀ x x', Sim x x' -> Sim (g x) (g' x')) : Rm n o (mapR g r) (mapR g' r') := by
 intro x j hx
 obtain ⟨y, h1, rfl⟩ := mapR_ok hx
 obtain ⟨x', h2, h3, h4⟩ := h y j h1
 exact ⟨g' x', by rw [h2]; rfl, hg _ _ h3, h4⟩
theorem Rm.and {r r' : Pr} {f f' : Ex -> Nat -> Pr} (h : Rm n o r r') (hf : ∀ x x' j, r = .ok (x, j) -> j <= n -> Sim x x' -> Rm n o (f x j) (f' x' (o + j))) : Rm n o (andR r f) (andR r' f') := by
 intro x j hx
 obtain ⟨y, m, h1, h5⟩ := andR_ok hx
 obtain ⟨x', h2, h3, h4⟩ := h y m h1
 rw [h2]
 exact hf y x' m h1 h4 h3 x j h5
theorem Rm.nest {r r' : Pr} {d : Nat} {a a' : Int} (h : Rm n o r r') : Rm n o (nestR d a r) (nestR d a' r') := by
 intro x j hx
 obtain ⟨h1, h2⟩ := nestR_ok hx
 have : d ≠ 20 := fun e => by rw [nestR, if_pos e] at hx; cases hx
 rw [nestR, if_neg this]
 exact h x j h1
theorem Rm.par (hw : Em ts ts' n o) {r r' : Pr} (h : Rm n o r r') : Rm n o (parR ts r) (parR ts' r') := by
 intro x j hx
 obtain ⟨j', h1, h2, rfl⟩ := parR_ok hx
 obtain ⟨x', h3, h4, h5⟩ := h x j' h1
 have hl := hw.lt (sg_k h2)
 exact ⟨x', by rw [h3]; simp only [parR]; rw [if_pos (by rw [hw.sgl hl]; exact h2)]; rfl, h4, hl⟩
theorem Rm.err {e : Int × Int} {r' : Pr} : Rm n o (.error e) r' := fun x j hx => by cases hx
theorem Rm.in_ (hw : Em ts ts' n o) (i : Nat) : Rm n o (inR ts i) (inR ts' (o + i)) := by
 intro x j hx
 have hx0 := hx
 obtain ⟨rfl, rfl⟩ := inR_ok hx0
 unfold inR at hx
 split at hx
 · rename_i h1
   split at hx
   · rename_i h2
     split at hx
     · rename_i h3
       have hl := hw.lt (sg_k h3)
       have e1 : (tk ts' (o + i + 2)).k = (tk ts (i + 2)).k /\ (tk ts' (o + i + 2)).t = (tk ts (i + 2)).t /\ (tk ts' (o + i + 2)).n = (tk ts (i + 2)).n := hw.s (i + 2) (by omega)
       refine ⟨.mk 3 0 (tk ts' (o + i + 2)).t 0 [] (tk ts' (o + i)).a, ?_, ?_, hl⟩
       · unfold inR
         rw [if_pos (show sg ts' (o + i + 1) [40] = true from (hw.sgl (i := i + 1) (by omega) _).trans h1), if_pos (by rw [e1.1]; exact h2), if_pos (show sg ts' (o + i + 3) [41] = true from (hw.sgl (i := i + 3) hl _).trans h3)]
         rfl
       · rw [e1.2.1]
         exact .leaf ..
     · cases hx
   · cases hx
 · cases hx
theorem Rm.one (hw : Em ts ts' n o) {E0 One E0' One' : Nat -> Pr} {d i : Nat} (hE : ∀ i, i <= n -> Rm n o (E0 i) (E0' (o + i))) (hO : ∀ i, i <= n -> Rm n o (One i) (One' (o + i))) (hi : i <= n) : Rm n o (oneR ts E0 One d i) (oneR ts' E0' One' d (o + i)) := by
 by_cases hin : i = n
 · subst hin
   have h5 := hw.e i (Nat.le_refl _)
   have hs : ∀ s, sg ts i s = false := fun s => by
    unfold sg
    rw [h5]
    rfl
   have : oneR ts E0 One d i = .error (wrongF ts i) := by
    unfold oneR
    rw [hs, hs, hs, if_neg (by decide), if_neg (by decide), if_neg (by rw [h5]; decide), if_neg (by rw [h5]; decide), if_neg (by rw [h5]; rintro ⟨h, _⟩; exact absurd h (by decide))]
   rw [this]
   exact Rm.err
 · have hl : i < n := by omega
   obtain ⟨k1, k2, k3⟩ := hw.s i hl
   unfold oneR
   rw [hw.sgl hl, hw.sgl hl, hw.sgl hl, k1, k2, k3]
   split
   · exact Rm.map (Rm.nest (hO (i + 1) hl)) fun x x' hx => .one _ _ _ _ _ _ _ _ hx
   · split
     · exact Rm.nest (Rm.par hw (hE (i + 1) hl))
     · split
       · intro x j hx
         simp only [Except.ok.injEq, Prod.mk.injEq] at hx
         obtain ⟨rfl, rfl⟩ := hx
         exact ⟨_, rfl, .leaf .., hl⟩
       · split
         · intro x j hx
           simp only [Except.ok.injEq, Prod.mk.injEq] at hx
           obtain ⟨rfl, rfl⟩ := hx
           exact ⟨_, rfl, .leaf .., hl⟩
         · split
           · exact Rm.in_ hw i
           · exact Rm.err
theorem Rm.loop (hw : Em ts ts' n o) {E E' : Nat -> Pr} {k : Int} (hm : ∀ i x j, E i = .ok (x, j) -> i < j) (hE : ∀ i, i <= n -> Rm n o (E i) (E' (o + i))) : ∀ (g g' : Nat) (x x' : Ex) (j : Nat), j <= n -> n - j < g -> n - j < g' -> Sim x x' -> Rm n o (loopR ts E k g x j) (loopR ts' E' k g' x' (o + j))
 | 0, _, _, _, j, _, h, _, _ => by omega
 | _, 0, _, _, j, _, _, h, _ => by omega
 | g + 1, g' + 1, x, x', j, hj, h1, h2, hs => by
  rw [loopR, loopR, hw.op hj]
  split
  · intro y m hy
    simp only [Except.ok.injEq, Prod.mk.injEq] at hy
    obtain ⟨rfl, rfl⟩ := hy
    exact ⟨_, rfl, hs, hj⟩
  · rename_i h0
    have hl := hw.lt (opFrom_sg _ _ h0)
    refine Rm.and (hE (j + 1) hl) fun y y' m hy hmn hs' => ?_
    have := hm _ _ _ hy
    exact Rm.loop hw hm hE g g' _ _ m hmn (by omega) (by omega) (.two _ _ _ _ _ _ _ _ _ _ hs hs')
theorem Rm.expr (hw : Em ts ts' n o) (hl : ts.length = n + 1) (hl' : o + n < ts'.length) : ∀ (f k d i : Nat), i <= n -> Rm n o (exprR ts f k d i) (exprR ts' f k d (o + i))
 | 0, k, d, i, _ => Rm.err
 | f + 1, k, d, i, hi => by
  rw [exprR, exprR]
  split
  · exact Rm.one hw (fun i hi => Rm.expr hw hl hl' f 0 (d + 1) i hi) (fun i hi => Rm.expr hw hl hl' f 6 (d + 1) i hi) hi
  · have hR : ∀ i, i <= n -> Rm n o (exprR ts f (k + 1) d i) (exprR ts' f (k + 1) d (o + i)) := fun i hi => Rm.expr hw hl hl' f (k + 1) d i hi
    refine Rm.and (hR i hi) fun x x' j hx hj hs => ?_
    exact Rm.loop hw (fun i x j h => exprR_mono _ _ _ _ h) hR _ _ _ _ _ hj (by omega) (by omega) hs
end
theorem Sim.trans {x y : Ex} (h : Sim x y) : ∀ {z : Ex}, Sim y z -> Sim x z := by
 induction h with
 | leaf k n s op a b => intro z hz; cases hz; exact .leaf ..
 | one k n s op a b x y h ih => intro z hz; cases hz with | one _ _ _ _ _ c _ z h2 => exact .one _ _ _ _ _ _ _ _ (ih h2)
 | two k n s op a b x y x' y' h1 h2 i1 i2 => intro z hz; cases hz with | two _ _ _ _ _ c _ _ z1 z2 k1 k2 => exact .two _ _ _ _ _ _ _ _ _ _ (i1 k1) (i2 k2)
def Pk (E : List UInt8 -> Prop) (p : List UInt8) (ks : List K3) : Prop := ∀ (l : List UInt8) (i : Nat) (r : List UInt8) (ts : List Tk), i <= l.length -> l.drop i = p ++ r -> E r -> toks l (i + p.length) = .ok ts -> ∃ us, toks l i = .ok (us ++ ts) /\ us.map k3 = ks
abbrev Tr : List UInt8 -> Prop := fun _ => True
def hdE (q : List UInt8) : Prop := ∃ c t, q = c :: t /\ endB c = true
section
variable {E E' : List UInt8 -> Prop} {p q : List UInt8} {a b : List K3}
theorem Pk.nil (E : List UInt8 -> Prop) : Pk E [] [] := fun _ _ _ ts _ _ _ h => ⟨[], h, rfl⟩
theorem Pk.glue (h : Pk E p a) (k : Pk E' q b) (he : ∀ r, E' r -> E (q ++ r)) : Pk E' (p ++ q) (a ++ b) := by
 intro l i r ts hi hd hr ht
 rw [List.append_assoc] at hd
 obtain ⟨us, h1, h2⟩ := k _ _ _ _ (in_of hi hd) (drop_app hd) hr (by rw [Nat.add_assoc, <- List.length_append]; exact ht)
 obtain ⟨vs, h3, h4⟩ := h _ _ _ _ hi hd (he r hr) h1
 exact ⟨vs ++ us, by rw [List.append_assoc]; exact h3, by rw [List.map_append, h2, h4]⟩
theorem Pk.t (h : Pk Tr p a) (k : Pk E q b) : Pk E (p ++ q) (a ++ b) := h.glue k fun _ _ => trivial
theorem hdE.app (h : hdE q) (r : List UInt8) : endR (q ++ r) := by
 obtain ⟨c, t, rfl, hc⟩ := h
 intro d hd
 rw [List.cons_append, List.head?_cons, Option.some.injEq] at hd
 subst hd
 exact hc
theorem Pk.e (h : Pk endR p a) (k : Pk E q b) (hq : hdE q) : Pk E (p ++ q) (a ++ b) := h.glue k fun r _ => hq.app r
theorem Pk.up (h : Pk Tr p a) : Pk E p a := fun l i r ts hi hd _ ht => h l i r ts hi hd trivial ht
theorem blank1 {c : UInt8} (hc : blankB c = true) : Pk Tr [c] [] := by
 intro l i r ts hi hd _ ht
 refine ⟨[], ?_, rfl⟩
 have hd' : l.drop i = c :: r := hd
 have i1 : i + 1 <= l.length := in_of hi hd
 have d1 : l.drop (i + 1) = r := drop_app hd
 have e : skN false (c :: r) = 1 + skN false r := by rw [skN, if_pos hc]
 rw [toks_skip hi, hd', e, <- Nat.add_assoc]
 rw [List.length_singleton, toks_skip i1, d1] at ht
 exact ht
theorem Pk.sp (h : Pk E q b) : Pk E (32 :: q) b := (blank1 (c := 32) (by decide)).t h
theorem Pk.nl (h : Pk Tr p a) : Pk Tr (p ++ [10]) a := by
 have := h.t (blank1 (c := 10) (by decide))
 rwa [List.append_nil] at this
theorem pq_one {k : Int} {t : List UInt8} {n : Int} (hp : p ≠ []) (h : ∀ r, E r -> skN false (p ++ r) = 0 /\ tokR (p ++ r) = .ok (k, t, n, p.length)) : Pk E p [(k, t, n)] := fun l i r ts hi hd hr ht =>
 ⟨[⟨k, t, n, (i : Nat)⟩], tok_n hd hp (h r hr).1 (h r hr).2 ht, rfl⟩
theorem sg_1 {c : UInt8} (h0 : letterB c = false) (h1 : digitB c = false) (h2 : [60, 62, 61, 33].contains c = false) (h3 : [38, 124].contains c = false) (h4 : (c == 45) = false) (h5 : shortL.contains c = true) (r : List UInt8) : tokR (c :: r) = .ok (4, [c], 0, 1) := by
 have hs : sign2 (c :: r) = false := by
  cases r with
  | nil => rfl
  | cons d r =>
   show ((d == 61 && [60, 62, 61, 33].contains c) || (d == c && [38, 124].contains c) || (c == 45 && d == 62)) = false
   rw [h2, h3, h4]
   simp
 exact sign_tok h0 h1 h5 hs
def kS1 (c : UInt8) : K3 := (4, [c], 0)
def kTo : K3 := (4, [45, 62], 0)
theorem Pk.one (c : UInt8) (h0 : letterB c = false) (h1 : digitB c = false) (h2 : [60, 62, 61, 33].contains c = false) (h3 : [38, 124].contains c = false) (h4 : (c == 45) = false) (h5 : shortL.contains c = true) (h6 : blankB c = false) (h7 : (c == 47) = false) (h : Pk E q b) : Pk E (c :: q) (kS1 c :: b) :=
 (pq_one (p := [c]) (E := Tr) (by simp) fun r _ => ⟨sk0 h6 h7, sg_1 h0 h1 h2 h3 h4 h5 r⟩).t h
theorem Pk.lb (h : Pk E q b) : Pk E (123 :: q) (kS1 123 :: b) := h.one 123 (by decide) (by decide) (by decide) (by decide) (by decide) (by decide) (by decide) (by decide)
theorem Pk.rb (h : Pk E q b) : Pk E (125 :: q) (kS1 125 :: b) := h.one 125 (by decide) (by decide) (by decide) (by decide) (by decide) (by decide) (by decide) (by decide)
theorem Pk.lk (h : Pk E q b) : Pk E (91 :: q) (kS1 91 :: b) := h.one 91 (by decide) (by decide) (by decide) (by decide) (by decide) (by decide) (by decide) (by decide)
theorem Pk.rk (h : Pk E q b) : Pk E (93 :: q) (kS1 93 :: b) := h.one 93 (by decide) (by decide) (by decide) (by decide) (by decide) (by decide) (by decide) (by decide)
theorem Pk.sc (h : Pk E q b) : Pk E (59 :: q) (kS1 59 :: b) := h.one 59 (by decide) (by decide) (by decide) (by decide) (by decide) (by decide) (by decide) (by decide)
theorem Pk.cm (h : Pk E q b) : Pk E (44 :: q) (kS1 44 :: b) := h.one 44 (by decide) (by decide) (by decide) (by decide) (by decide) (by decide) (by decide) (by decide)
theorem Pk.eq (h : Pk E q b) (hq : hdE q) : Pk E (61 :: q) (kS1 61 :: b) :=
 (pq_one (p := [61]) (E := endR) (by simp) fun r hr => ⟨sk0 (by decide) (by decide), sign_tok (by decide) (by decide) (by decide) (sign2_soft (by decide) hr.soft)⟩).e h hq
theorem Pk.to (h : Pk E q b) : Pk E (45 :: 62 :: q) (kTo :: b) :=
 (pq_one (p := [45, 62]) (E := Tr) (by simp) fun r _ => ⟨sk0 (by decide) (by decide), rfl⟩).t h
theorem end_sc : hdE (59 :: q) := ⟨59, q, rfl, rfl⟩
theorem end_sp : hdE (32 :: q) := ⟨32, q, rfl, rfl⟩
theorem end_rk : hdE (93 :: q) := ⟨93, q, rfl, rfl⟩
theorem end_cm : hdE (44 :: q) := ⟨44, q, rfl, rfl⟩
theorem word_pq {s : List UInt8} (h1 : s ≠ []) (h2 : s.length <= 24) (h3 : ∃ c t, s = c :: t /\ letterB c = true) (h4 : ∀ c, c ∈ s -> wordB c = true) : Pk endR s [(if wordsL.contains s then 2 else 1, s, 0)] := by
 obtain ⟨c, t, rfl, hc⟩ := h3
 refine pq_one h1 fun r hr => ⟨?_, ?_⟩
 · have := start_ok (c := c) (by unfold startB; rw [hc]; simp)
   exact sk0 this.1 this.2.1
 · have e : tokR (c :: t ++ r) = if letterB c then wordR (c :: t ++ r) else if digitB c then numR (c :: t ++ r) else signR (c :: t ++ r) := rfl
   rw [e, hc, if_pos rfl]
   unfold wordR
   rw [hr.word _ h4, if_neg (by omega)]
theorem pq_name {s : List UInt8} (hn : nameM s = true) : Pk endR s [(1, s, 0)] := by
 unfold nameM at hn
 simp only [Bool.and_eq_true] at hn
 obtain ⟨⟨⟨h1, h2⟩, h3⟩, h4⟩ := hn
 obtain ⟨h1, h5⟩ := of_decide_eq_true h1
 have h3 := of_decide_eq_true h3
 have h4 : wordsL.contains s = false := by simpa using h4
 have := word_pq h1 h5 (by
  cases s with
  | nil => exact absurd rfl h1
  | cons c t => exact ⟨c, t, rfl, h2⟩) (fun c hc => by rw [<- h3] at hc; exact while_all c hc)
 rw [h4] at this
 exact this
theorem pq_kw {s : List UInt8} (h : (decide (s ≠ [] /\ s.length <= 24) && (match s with | c :: _ => letterB c | [] => false) && s.all wordB && wordsL.contains s) = true) : Pk endR s [(2, s, 0)] := by
 simp only [Bool.and_eq_true] at h
 obtain ⟨⟨⟨h1, h2⟩, h3⟩, h4⟩ := h
 obtain ⟨h1, h5⟩ := of_decide_eq_true h1
 have := word_pq h1 h5 (by
  cases s with
  | nil => exact absurd rfl h1
  | cons c t => exact ⟨c, t, rfl, h2⟩) (fun c hc => (List.all_eq_true.1 h3) c hc)
 rw [h4] at this
 exact this
theorem pq_num {n : Int} (h0 : 0 <= n) (h1 : n <= 9223372036854775807) : Pk endR (Lib.itoa n) [(3, [], n)] := by
 have hne : Lib.itoa n ≠ [] := by rw [itoa_nat h0]; exact dec_ne _
 refine pq_one hne fun r hr => ⟨?_, num_tok h0 h1 hr⟩
 rw [itoa_nat h0]
 cases hm : Lib.decDigits n.toNat with
 | nil => exact absurd hm (dec_ne _)
 | cons c m =>
  have hd := dec_all n.toNat c (by rw [hm]; simp)
  have := start_ok (c := c) (by unfold startB; rw [hd]; simp)
  exact sk0 this.1 this.2.1
def numK (v : Int) : List K3 := if v < 0 then [kS1 45, (3, [], -v)] else [(3, [], v)]
theorem pq_int {v : Int} (hv : InI v) (hm : v ≠ -9223372036854775808) : Pk endR (Lib.itoa v) (numK v) := by
 obtain ⟨h1, h2⟩ := hv
 unfold numK
 by_cases h : v < 0
 · rw [if_pos h]
   have e : Lib.itoa v = 45 :: Lib.itoa (-v) := by
    unfold Lib.itoa
    rw [if_pos h, if_neg (by omega), show v.natAbs = (-v).toNat by omega]
   rw [e]
   have hp := pq_num (n := -v) (by omega) (by omega)
   refine (pq_one (p := [45]) (E := fun r => soft r) (k := 4) (t := [45]) (n := 0) (by simp) fun r hr => ⟨sk0 (by decide) (by decide), sign_tok (by decide) (by decide) (by decide) (sign2_soft (by decide) hr)⟩).glue hp fun r hr => ?_
   show soft (Lib.itoa (-v) ++ r)
   rw [itoa_nat (n := -v) (by omega)]
   cases hm : Lib.decDigits (-v).toNat with
   | nil => exact absurd hm (dec_ne _)
   | cons c m =>
    have hd := dec_all (-v).toNat c (by rw [hm]; simp)
    exact soft_start ⟨c, m ++ r, rfl, by unfold startB; rw [hd]; simp⟩
 · rw [if_neg h]
   exact pq_num (by omega) (by omega)
end
def exK (x : Ex) : List K3 := ptk (dpX x) x false
theorem ex_ok {x : Ex} (h : exOk x = true) (hn : okN x) : shapeM (dpX x) x = true /\ exX x = txM (dpX x) x false /\ (readA (exX x)).2.1 = 0 /\ (exX x).length <= 16384 /\ Sim x (readA (exX x)).1 := by
 have h := of_decide_eq_true h
 obtain ⟨h1, h2, h3⟩ := text_ne2 h
 obtain ⟨h4, h5⟩ := back_law h1 (hn _) h3
 have h6 := pg_tx _ false [] h1 h4
 unfold exX
 rw [h2]
 exact ⟨h1, h6, h3, h4, h5⟩
theorem pq_ex {x : Ex} (h : exOk x = true) (hn : okN x) : Pk endR (exX x) (exK x) := by
 obtain ⟨h1, h2, _⟩ := ex_ok h hn
 rw [h2]
 exact fun l i r ts hi hd hr ht => tx_toks (dpX x) false i h1 (hn _) hi hd hr ht
def acK (a : Ac) : List K3 :=
 if a.k = 2 then (2, wRaise, 0) :: (1, a.n, 0) :: [kS1 59] else (2, if a.k = 1 then wSet else wEmit, 0) :: (1, a.n, 0) :: kS1 61 :: (exK a.x ++ [kS1 59])
def acsK : List Ac -> List K3
 | [] => []
 | a :: l => acK a ++ acsK l
def blK (l : List Ac) : List K3 := kS1 123 :: (acsK l ++ [kS1 125])
theorem pq_ac {a : Ac} (h : acOk a = true) (hn : acN a) : Pk Tr (acT a) (acK a) := by
 unfold acOk at h
 simp only [Bool.and_eq_true] at h
 obtain ⟨⟨h1, h2⟩, h3⟩ := h
 unfold acT acK
 by_cases hk : a.k = 2
 · rw [if_pos hk, if_pos hk]
   exact (pq_kw (s := wRaise) (by decide)).e (Pk.sp ((pq_name h2).e (Pk.sc (Pk.nil _)) end_sc)) end_sp
 · rw [if_neg hk] at h3 ⊢
   rw [if_neg hk]
   have tail := Pk.sp ((pq_name h2).e (Pk.sp (Pk.eq (Pk.sp ((pq_ex h3 hn).e (Pk.sc (Pk.nil Tr)) end_sc)) end_sp)) end_sp)
   by_cases h1k : a.k = 1
   · simp only [if_pos h1k]
     exact (pq_kw (s := wSet) (by decide)).e tail end_sp
   · simp only [if_neg h1k]
     exact (pq_kw (s := wEmit) (by decide)).e tail end_sp
theorem pq_acs : ∀ {l : List Ac}, l.all acOk = true -> (∀ a, a ∈ l -> acN a) -> Pk Tr (acsT l) (acsK l)
 | [], _, _ => Pk.nil _
 | a :: l, h, hn => by
  rw [List.all_cons, Bool.and_eq_true] at h
  exact Pk.sp ((pq_ac h.1 (hn a (by simp))).t (pq_acs h.2 fun b hb => hn b (by simp [hb])))
theorem pq_bl {l : List Ac} (h : l.all acOk = true) (hn : ∀ a, a ∈ l -> acN a) : Pk Tr (blT l) (blK l) :=
 Pk.lb ((pq_acs h hn).t (Pk.sp (Pk.rb (Pk.nil _))))
def tgK : List (List UInt8) -> List K3
 | [] => []
 | s :: l => kS1 44 :: (1, s, 0) :: tgK l
def hdK (m : Mv) : List K3 := if m.k = 1 then [(2, wOn, 0), (1, m.ev, 0)] else if m.k = 3 then [(2, wAfter, 0), (3, [], m.wt)] else [(2, wAlways, 0)]
def gdK (m : Mv) : List K3 := if m.gd then kS1 91 :: (exK m.g ++ [kS1 93]) else []
def toK (m : Mv) : List K3 := match m.tg with
 | [] => []
 | s :: l => kTo :: (1, s, 0) :: tgK l
def mvK (m : Mv) : List K3 := hdK m ++ (gdK m ++ ((if m.acts = [] then [] else blK m.acts) ++ (toK m ++ [kS1 59])))
theorem pq_tg : ∀ {l : List (List UInt8)}, l.all nameM = true -> Pk Tr (tgT l ++ [59]) (tgK l ++ [kS1 59]) /\ hdE (tgT l ++ [59])
 | [], _ => ⟨Pk.sc (Pk.nil _), end_sc⟩
 | s :: l, h => by
  rw [List.all_cons, Bool.and_eq_true] at h
  obtain ⟨h1, h2⟩ := pq_tg h.2
  refine ⟨?_, end_cm⟩
  have := Pk.cm (Pk.sp ((pq_name h.1).e h1 h2))
  simpa [tgT, tgK] using this
theorem pq_mv {m : Mv} (h : mvOk m = true) (hn : mvN m) : Pk Tr (mvT m) (mvK m) := by
 unfold mvOk at h
 simp only [Bool.and_eq_true] at h
 obtain ⟨⟨⟨⟨⟨h1, h2⟩, h3⟩, h4⟩, h5⟩, h6⟩ := h
 have h1 := of_decide_eq_true h1
 have h6 := of_decide_eq_true h6
 unfold mvT mvK
 have t1 : Pk Tr ((match m.tg with
  | [] => []
  | s :: l => 32 :: 45 :: 62 :: 32 :: (s ++ tgT l)) ++ [59]) (toK m ++ [kS1 59]) /\ hdE ((match m.tg with
  | [] => []
  | s :: l => 32 :: 45 :: 62 :: 32 :: (s ++ tgT l)) ++ [59]) := by
  unfold toK
  cases hm : m.tg with
  | nil => exact ⟨Pk.sc (Pk.nil _), end_sc⟩
  | cons s l =>
   rw [hm, List.all_cons, Bool.and_eq_true] at h5
   obtain ⟨g1, g2⟩ := pq_tg h5.2
   refine ⟨?_, end_sp⟩
   have := Pk.sp (Pk.to (Pk.sp ((pq_name h5.1).e g1 g2)))
   simpa using this
 generalize ((match m.tg with
  | [] => []
  | s :: l => 32 :: 45 :: 62 :: 32 :: (s ++ tgT l)) ++ [59] : List UInt8) = R1 at *
 generalize toK m ++ [kS1 59] = K1 at *
 have t2 : Pk Tr ((if m.acts = [] then [] else 32 :: blT m.acts) ++ R1) ((if m.acts = [] then [] else blK m.acts) ++ K1) /\ hdE ((if m.acts = [] then [] else 32 :: blT m.acts) ++ R1) := by
  by_cases ha : m.acts = []
  · rw [if_pos ha, if_pos ha]; exact t1
  · rw [if_neg ha, if_neg ha]
    exact ⟨Pk.sp ((pq_bl h4 hn.a).t t1.1), end_sp⟩
 generalize ((if m.acts = [] then [] else 32 :: blT m.acts) ++ R1 : List UInt8) = R2 at *
 generalize (if m.acts = [] then [] else blK m.acts) ++ K1 = K2 at *
 have t3 : Pk Tr (gdT m ++ R2) (gdK m ++ K2) /\ hdE (gdT m ++ R2) := by
  unfold gdT gdK
  cases hg : m.gd with
  | false => exact t2
  | true =>
   rw [hg] at h3
   refine ⟨?_, end_sp⟩
   have := Pk.sp (Pk.lk ((pq_ex h3 hn.g).e (Pk.rk t2.1) end_rk))
   simpa using this
 generalize (gdT m ++ R2 : List UInt8) = R3 at *
 generalize gdK m ++ K2 = K3' at *
 unfold hdT hdK
 by_cases k1 : m.k = 1
 · rw [if_pos k1] at h2 ⊢
   rw [if_pos k1, List.append_assoc]
   exact (pq_kw (s := wOn) (by decide)).e (Pk.sp ((pq_name h2).e t3.1 t3.2)) end_sp
 · rw [if_neg k1, if_neg k1]
   by_cases k3 : m.k = 3
   · rw [if_pos k3, if_pos k3, List.append_assoc]
     exact (pq_kw (s := wAfter) (by decide)).e (Pk.sp ((pq_num (by omega) hn.w.2).e t3.1 t3.2)) end_sp
   · rw [if_neg k3, if_neg k3]
     exact (pq_kw (s := wAlways) (by decide)).e t3.1 t3.2
theorem pq_ind {p : List UInt8} {a : List K3} (h : Pk Tr p a) : ∀ d, Pk Tr (indT d ++ p) a
 | 0 => h
 | d + 1 => Pk.sp (Pk.sp (pq_ind h d))
theorem pq_ln {d : Nat} {p : List UInt8} {a : List K3} (h : Pk Tr p a) : Pk Tr (lnT (d, p)) a := pq_ind h.nl d
def Lq (L : List Ln) (ks : List K3) : Prop := Pk Tr (pageT L) ks
theorem Lq.nil : Lq [] [] := Pk.nil _
theorem Lq.app {L M : List Ln} {a b : List K3} (h : Lq L a) (k : Lq M b) : Lq (L ++ M) (a ++ b) := by
 unfold Lq pageT
 rw [List.flatMap_append]
 exact h.t k
theorem Lq.one {d : Nat} {p : List UInt8} {a : List K3} (h : Pk Tr p a) : Lq [(d, p)] a := by
 unfold Lq pageT
 rw [List.flatMap_cons, List.flatMap_nil, List.append_nil]
 exact pq_ln h
theorem Lq.cons {d : Nat} {p : List UInt8} {a : List K3} {L : List Ln} {b : List K3} (h : Pk Tr p a) (k : Lq L b) : Lq ((d, p) :: L) (a ++ b) := (Lq.one h).app k
def iniK (b : Nb) : List K3 := if b.ini = [] then [] else [(2, wInitial, 0), (1, b.ini, 0), kS1 59]
def enK (b : Nb) : List K3 := if b.en = [] then [] else (2, wEnter, 0) :: blK b.en
def lvK (b : Nb) : List K3 := if b.lv = [] then [] else (2, wLeave, 0) :: blK b.lv
def mvsK : List Mv -> List K3
 | [] => []
 | m :: l => mvK m ++ mvsK l
def nbK (b : Nb) : List K3 := iniK b ++ (enK b ++ (lvK b ++ mvsK b.mv))
mutual
def ndK : Nd -> List K3
 | .mk b l =>
  if hist b.k then (2, kW b.k, 0) :: (1, b.nm, 0) :: kTo :: (1, b.dft, 0) :: [kS1 59]
  else (2, kW b.k, 0) :: (1, b.nm, 0) :: kS1 123 :: (nbK b ++ (ndsK l ++ [kS1 125]))
def ndsK : List Nd -> List K3
 | [] => []
 | x :: l => ndK x ++ ndsK l
end
structure nbS (b : Nb) : Prop where
 nm : nameM b.nm = true
 ini : b.ini = [] ∨ nameM b.ini = true
 en : b.en.all acOk = true
 lv : b.lv.all acOk = true
 mv : b.mv.all mvOk = true
theorem nb_s {b : Nb} {n : Nat} (h : nbOk b n = true) (hh : hist b.k = false) : (b.k = 1 ∨ b.k = 2) /\ b.dft = [] /\ nbS b := by
 unfold nbOk at h
 rw [hh] at h
 simp only [Bool.and_eq_true, Bool.false_eq_true, if_false, Bool.or_eq_true, decide_eq_true_eq] at h
 obtain ⟨h0, ⟨⟨⟨h1, h2⟩, h3⟩, h4⟩, h5⟩ := h
 exact ⟨h1.1, h1.2, h0, h2, h3, h4, h5⟩
theorem nb_h {b : Nb} {n : Nat} (h : nbOk b n = true) (hh : hist b.k = true) : nameM b.nm = true /\ nameM b.dft = true /\ b.ini = [] /\ b.en = [] /\ b.lv = [] /\ b.mv = [] /\ n = 0 := by
 unfold nbOk at h
 rw [hh] at h
 simp only [Bool.and_eq_true, if_true, decide_eq_true_eq] at h
 obtain ⟨h0, h1, h2, h3, h4, h5, h6⟩ := h
 exact ⟨h0, h1, h2, h3, h4, List.eq_nil_of_length_eq_zero h5, h6⟩
theorem lq_nb {d : Nat} {b : Nb} (h : nbS b) (hn : nbN b) : Lq (nbL d b) (nbK b) := by
 unfold nbL nbK
 refine Lq.app ?_ (Lq.app ?_ (Lq.app ?_ ?_))
 · unfold iniL iniK
   by_cases hi : b.ini = []
   · rw [if_pos hi, if_pos hi]; exact Lq.nil
   · rw [if_neg hi, if_neg hi]
     exact Lq.one ((pq_kw (s := wInitial) (by decide)).e (Pk.sp ((pq_name (h.ini.resolve_left hi)).e (Pk.sc (Pk.nil _)) end_sc)) end_sp)
 · unfold enL enK
   by_cases hi : b.en = []
   · rw [if_pos hi, if_pos hi]; exact Lq.nil
   · rw [if_neg hi, if_neg hi]
     exact Lq.one ((pq_kw (s := wEnter) (by decide)).e (Pk.sp (pq_bl h.en hn.en)) end_sp)
 · unfold lvL lvK
   by_cases hi : b.lv = []
   · rw [if_pos hi, if_pos hi]; exact Lq.nil
   · rw [if_neg hi, if_neg hi]
     exact Lq.one ((pq_kw (s := wLeave) (by decide)).e (Pk.sp (pq_bl h.lv hn.lv)) end_sp)
 · unfold mvL
   have hm := h.mv
   have hk := hn.mv
   generalize b.mv = l at *
   induction l with
   | nil => exact Lq.nil
   | cons m l ih =>
    rw [List.all_cons, Bool.and_eq_true] at hm
    exact Lq.cons (pq_mv hm.1 (hk m (by simp))) (ih hm.2 fun x hx => hk x (by simp [hx]))
theorem kw_kind (k : Int) : Pk endR (kW k) [(2, kW k, 0)] := by
 unfold kW
 split
 · exact pq_kw (by decide)
 split
 · exact pq_kw (by decide)
 split
 · exact pq_kw (by decide)
 · exact pq_kw (by decide)
mutual
theorem lq_nd : ∀ (d : Nat) (x : Nd), ndOk d x = true -> ndN x -> Lq (ndL d x) (ndK x)
 | d, .mk b l, h, hn => by
  rw [ndOk] at h
  rw [ndN] at hn
  rw [ndL, ndK]
  simp only [Bool.and_eq_true] at h
  obtain ⟨⟨_, h1⟩, h2⟩ := h
  cases hh : hist b.k with
  | true =>
   obtain ⟨a1, a2, _⟩ := nb_h h1 hh
   rw [if_pos rfl, if_pos rfl]
   exact Lq.one ((kw_kind b.k).e (Pk.sp ((pq_name a1).e (Pk.sp (Pk.to (Pk.sp ((pq_name a2).e (Pk.sc (Pk.nil _)) end_sc)))) end_sp)) end_sp)
  | false =>
   obtain ⟨_, _, hs⟩ := nb_s h1 hh
   rw [if_neg (by decide), if_neg (by decide)]
   exact Lq.cons ((kw_kind b.k).e (Pk.sp ((pq_name hs.nm).e (Pk.sp (Pk.lb (Pk.nil _))) end_sp)) end_sp) ((lq_nb hs hn.1).app ((lq_nds (d + 1) l h2 hn.2).app (Lq.one (Pk.rb (Pk.nil _)))))
theorem lq_nds : ∀ (d : Nat) (l : List Nd), ndsOk d l = true -> ndsN l -> Lq (ndsL d l) (ndsK l)
 | d, [], _, _ => by
  rw [ndsL, ndsK]
  exact Lq.nil
 | d, x :: l, h, hn => by
  rw [ndsOk, Bool.and_eq_true] at h
  rw [ndsN] at hn
  rw [ndsL, ndsK]
  exact (lq_nd d x h.1 hn.1).app (lq_nds d l h.2 hn.2)
end
def vrK (v : Vr) : List K3 := (2, wVar, 0) :: (1, v.n, 0) :: kS1 61 :: (numK v.v ++ [kS1 59])
def vrsK : List Vr -> List K3
 | [] => []
 | v :: l => vrK v ++ vrsK l
def chK (c : Ch) : List K3 := (2, wChart, 0) :: (1, c.root.b.nm, 0) :: kS1 123 :: (vrsK c.vars ++ (nbK c.root.b ++ (ndsK c.root.kids ++ [kS1 125])))
theorem lq_ch {c : Ch} (h : chOk c = true) (hn : chN c) : Lq (chL c) (chK c) := by
 unfold chOk at h
 simp only [Bool.and_eq_true] at h
 obtain ⟨⟨h1, h2⟩, h3⟩ := h
 replace h3 := of_decide_eq_true h3
 obtain ⟨vars, ⟨b, l⟩⟩ := c
 have hr := hn.r
 rw [ndN] at hr
 rw [ndOk] at h2
 simp only [Bool.and_eq_true] at h2
 obtain ⟨⟨_, h4⟩, h5⟩ := h2
 have hk : b.k = 1 := h3.1
 have hh : hist b.k = false := by rw [hk]; rfl
 obtain ⟨_, _, hs⟩ := nb_s h4 hh
 unfold chL chK
 have hv : Lq (vars.map fun v => (1, vrT v)) (vrsK vars) := by
  have hv := hn.v
  dsimp only at h1 hv
  clear h3 hn h4 h5 hr
  induction vars with
  | nil => exact Lq.nil
  | cons v m ih =>
   rw [List.all_cons, Bool.and_eq_true, Bool.and_eq_true] at h1
   refine Lq.cons ?_ (ih h1.2 fun x hx => hv x (by simp [hx]))
   exact (pq_kw (s := wVar) (by decide)).e (Pk.sp ((pq_name h1.1.1).e (Pk.sp (Pk.eq (Pk.sp ((pq_int (hv v (by simp)) (of_decide_eq_true h1.1.2)).e (Pk.sc (Pk.nil _)) end_sc)) end_sp)) end_sp)) end_sp
 exact Lq.cons ((pq_kw (s := wChart) (by decide)).e (Pk.sp ((pq_name hs.nm).e (Pk.sp (Pk.lb (Pk.nil _))) end_sp)) end_sp) (hv.app ((lq_nb hs hr.1).app ((lq_nds 1 l h5 hr.2).app (Lq.one (Pk.rb (Pk.nil _))))))
end Go.Proofs.YtndkfaaeeojeiaaGreatDoor.Con
namespace Go.Proofs.YtndkfaaeeojeiaaGreatDoor.Con
open Go Go.RowKit Go.Kt Go.Kt.V Go.Proofs.YtndkfaaeeojeiaaGreatDoor.Vc
set_option linter.unusedSimpArgs false
set_option linter.unusedVariables false
set_option maxHeartbeats 4000000
theorem same6_c {w : World} {F G : Nat -> Prop} {s t : Sl} {l m : List (List UInt8)} (h : SliceF rTx 1 w F s l) (k : SliceF rTx 1 w G t m) :
  Calls Tryz.prog 125 #[s.v, t.v] w fun e w' => e = .returned (.bool (decide (l = m))) /\ Only [] w w' := by
 refine ret (v30w s t (fun v w' => v = .bool (decide (l = m)) /\ Only [] w w') w ?_)
 unfold v30v
 have h1 := h.len
 have h2 := h.cap
 have h3 := h.big
 have k1 := k.len
 refine ⟨fun hc => ?_, fun hc => ?_⟩
 · have hc : ¬ (s.n : Int) = (t.n : Int) := by simpa using hc
   rw [decide_eq_false (fun e => hc (by rw [h1, k1, e]))]
   exact ⟨rfl, Only.refl _ _⟩
 · have hc : (s.n : Int) = (t.n : Int) := by simpa using hc
   have hlm : l.length = m.length := by omega
   refine ⟨fun nv i w' => ∃ n : Nat, n <= l.length /\ i = (n : Int) /\ nv = l.length - n /\ l.take n = m.take n /\ Only [] w w', l.length, ⟨0, Nat.zero_le _, rfl, rfl, by simp, Only.refl _ _⟩, ?_⟩
   rintro nv _ w0 ⟨n, hn, rfl, rfl, he, hO⟩
   refine ⟨fun hlt => ?_, fun hge => ?_⟩
   · have hlt : (n : Int) < (s.n : Int) := of_decide_eq_true hlt
     obtain ⟨p, x, cs, a1, a2, a3, a4, a5, a6⟩ := (SliceF.only rTx_ok (by decide) h hO (by simp)).get (Int.natCast_nonneg n) hlt
     obtain ⟨q, y, ds, b1, b2, b3, b4, b5, b6⟩ := (SliceF.only rTx_ok (by decide) k hO (by simp)).get (i := (n : Int)) (Int.natCast_nonneg n) (by omega)
     rw [Int.toNat_natCast] at a2 b2
     unfold rTx at a6 b6
     subst a6 b6
     refine ⟨p, a1, _, a5, q, b1, _, b5, ?_⟩
     rw [T_eq]
     refine ⟨fun hne w1 hO1 => ?_, fun heq w2 hO2 => ⟨l.length - (n + 1), by omega, n + 1, by omega, by rw [wr' (by omega) (by omega)]; rfl, rfl, ?_, hO.tr0 hO2⟩⟩
     · have hne : x ≠ y := by simpa using hne
       rw [decide_eq_false (fun e => hne (by rw [e, b2] at a2; exact (Option.some.inj a2).symm))]
       exact ⟨rfl, hO.tr0 hO1⟩
     · have heq : x = y := by simpa using heq
       rw [List.take_add_one, List.take_add_one, he, a2, b2, heq]
   · have hge : ¬ (n : Int) < (s.n : Int) := of_decide_eq_false hge
     rw [List.take_of_length_le (by omega), List.take_of_length_le (by omega)] at he
     rw [decide_eq_true he]
     exact ⟨rfl, hO⟩
def Row2 {α : Type} (R : α -> α -> Prop) (xs ys : List α) : Prop := xs.length = ys.length /\ ∀ (i : Nat) (x y : α), xs[i]? = some x -> ys[i]? = some y -> R x y
theorem Row2.refl {α : Type} {R : α -> α -> Prop} {xs : List α} (h : ∀ x, x ∈ xs -> R x x) : Row2 R xs xs := ⟨rfl, fun i x y hx hy => by
 rw [hx] at hy
 injection hy with hy
 subst hy
 exact h x (List.mem_of_getElem? hx)⟩
def ExE (t : Bool) (x y : Ex) : Prop := ∀ d, sameM t d x y = true
structure AcE (t : Bool) (x y : Ac) : Prop where
 k : x.k = y.k
 n : x.n = y.n
 e : ExE t x.x y.x
 a : t = true -> x.a = y.a
structure MvE (t : Bool) (x y : Mv) : Prop where
 k : x.k = y.k
 ev : x.ev = y.ev
 wt : x.wt = y.wt
 gd : x.gd = y.gd
 g : ExE t x.g y.g
 acts : Row2 (AcE t) x.acts y.acts
 tg : x.tg = y.tg
 a : t = true -> x.a = y.a
structure NbE (t : Bool) (x y : Nb) : Prop where
 k : x.k = y.k
 nm : x.nm = y.nm
 ini : x.ini = y.ini
 dft : x.dft = y.dft
 en : Row2 (AcE t) x.en y.en
 lv : Row2 (AcE t) x.lv y.lv
 mv : Row2 (MvE t) x.mv y.mv
 a : t = true -> x.a = y.a
def NdE (t : Bool) : Nat -> Nd -> Nd -> Prop
 | 0, _, _ => True
 | d + 1, x, y => NbE t x.b y.b /\ Row2 (NdE t d) x.kids y.kids
structure VrE (t : Bool) (x y : Vr) : Prop where
 n : x.n = y.n
 v : x.v = y.v
 a : t = true -> x.a = y.a
structure ChE (t : Bool) (d : Nat) (x y : Ch) : Prop where
 vars : Row2 (VrE t) x.vars y.vars
 root : NdE t d x.root y.root
theorem ExE.refl (t : Bool) (x : Ex) : ExE t x x := fun d => same_self t d x
theorem AcE.refl (t : Bool) (x : Ac) : AcE t x x := ⟨rfl, rfl, ExE.refl t _, fun _ => rfl⟩
theorem MvE.refl (t : Bool) (x : Mv) : MvE t x x := ⟨rfl, rfl, rfl, rfl, ExE.refl t _, Row2.refl fun y _ => AcE.refl t y, rfl, fun _ => rfl⟩
theorem NbE.refl (t : Bool) (x : Nb) : NbE t x x := ⟨rfl, rfl, rfl, rfl, Row2.refl fun y _ => AcE.refl t y, Row2.refl fun y _ => AcE.refl t y, Row2.refl fun y _ => MvE.refl t y, fun _ => rfl⟩
theorem NdE.refl (t : Bool) : ∀ (d : Nat) (x : Nd), NdE t d x x
 | 0, _ => trivial
 | d + 1, x => ⟨NbE.refl t _, Row2.refl fun y _ => NdE.refl t d y⟩
theorem ChE.refl (t : Bool) (d : Nat) (x : Ch) : ChE t d x x := ⟨Row2.refl fun y _ => ⟨rfl, rfl, fun _ => rfl⟩, NdE.refl t d _⟩
section
variable {w w' : World} {F G : Nat -> Prop} {t : Bool}
theorem rE_ex {x : Ex} {cs : List Value} (h : rE false w F x cs) : ∃ d, rEx d w F x cs := by
 obtain ⟨d, h⟩ := h
 exact ⟨d, rXg_ex h⟩
theorem sameE_c {x y : Ex} {cs ds : List Value} (hx : rE false w F x cs) (hy : rE false w G y ds) (hE : ExE t x y) : Calls Tryz.prog 124 #[.agg cs.toArray, .agg ds.toArray, .bool t] w fun r w' => r = .returned (.bool true) /\ Only [] w w' := by
 obtain ⟨d, hx⟩ := rE_ex hx
 obtain ⟨e, hy⟩ := rE_ex hy
 refine (same_c t d hx hy).mono ?_
 rintro _ w1 ⟨rfl, hO⟩
 rw [hE d]
 exact ⟨rfl, hO⟩
theorem ac_sub {k : Int} {n : List UInt8} {xc : List Value} {a : Int} {ad : Addr} (h : Cells w ad (acv k n xc a)) : Cells w (ad.add 2) xc := h.sub 2 fun j v hj => by
 have hl := (List.getElem?_eq_some_iff.1 hj).1
 rw [Nat.add_comm]
 show (acv k n xc a)[j + 2]? = _
 unfold acv
 rw [List.getElem?_cons_succ, List.getElem?_cons_succ, List.getElem?_append_left hl]
 exact hj
theorem ac_last {k : Int} {n : List UInt8} {k' n' : Int} {s : List UInt8} {op : Int} {sl : Sl} {a' a : Int} {ad : Addr} (h : Cells w ad (acv k n (exv k' n' s op sl a') a)) : Cells w (ad.add 8) [.int .i64 a] := h.at1 8 _ rfl
theorem sameActs_c {a b : Sl} {xs ys : List Ac} (ha : SliceF (rAc false) 9 w F a xs) (hb : SliceF (rAc false) 9 w G b ys) (hE : Row2 (AcE t) xs ys) : Calls Tryz.prog 81 #[a.v, b.v, .bool t] w fun r w' => r = .returned (.bool true) /\ Only [] w w' := by
 refine ret (v31w a b t (fun v w' => v = .bool true /\ Only [] w w') w ?_)
 unfold v31v
 have l1 := ha.len
 have l2 := hb.len
 have l3 := hE.1
 have c1 := ha.cap
 have c2 := ha.big
 refine ⟨fun hc => ?_, fun hc => ?_⟩
 · have : ¬ (a.n : Int) = (b.n : Int) := by simpa using hc
   omega
 refine ⟨fun nv i w' => ∃ n : Nat, i = (n : Int) /\ n <= xs.length /\ nv = xs.length - n /\ Only [] w w', xs.length, ⟨0, rfl, Nat.zero_le _, rfl, Only.refl _ _⟩, ?_⟩
 rintro nv _ w0 ⟨n, rfl, hn, rfl, hO0⟩
 refine ⟨fun hlt => ?_, fun hge => ⟨rfl, hO0⟩⟩
 have hlt : n < a.n := by have := of_decide_eq_true hlt; omega
 obtain ⟨p, x, cs, g1, g2, g3, g4, _, g6⟩ := ha.get (i := (n : Int)) (by omega) (by omega)
 obtain ⟨q, y, ds, k1, k2, k3, k4, _, k6⟩ := hb.get (i := (n : Int)) (by omega) (by omega)
 rw [Int.toNat_natCast] at g2 k2
 have hxy := hE.2 n x y g2 k2
 refine ⟨p, g1, fun w1 hO1 => ?_⟩
 have hO01 := hO0.tr0 hO1
 obtain ⟨p', x', cs', q1, q2, _, _, g5, g6⟩ := (SliceF.only (rAc_ok false) (by decide) ha hO01 (by simp)).get (i := (n : Int)) (by omega) (by omega)
 obtain ⟨q', y', ds', q3, q4, _, _, k5, k6⟩ := (SliceF.only (rAc_ok false) (by decide) hb hO01 (by simp)).get (i := (n : Int)) (by omega) (by omega)
 rw [Int.toNat_natCast] at q2 q4
 rw [g2] at q2
 rw [k2] at q4
 injection q2 with q2
 injection q4 with q4
 subst q2 q4
 obtain rfl := g1.uniq q1
 obtain rfl := k1.uniq q3
 obtain ⟨xc, rfl, hx⟩ := g6
 obtain ⟨yc, rfl, hy⟩ := k6
 have hx' := hx
 have hy' := hy
 obtain ⟨sx, rfl⟩ := rE_cells hx
 obtain ⟨sy, rfl⟩ := rE_cells hy
 refine ⟨_, _, _, _, sx, _, ac_sub g5, q, k1, _, _, _, _, sy, _, ac_sub k5, (sameE_c hx' hy' hxy.e).mono ?_⟩
 rintro _ w2 ⟨rfl, hO2⟩
 have kp : ∀ {ad : Addr} {vs : List Value} {v : Value} {vt : List Value}, vs = v :: vt -> Cells w1 ad vs -> Cells w2 ad vs := fun hvs h => by
  subst hvs
  exact h.keep (hO2.block _ h.lt (by simp))
 have g5' := kp rfl g5
 have k5' := kp rfl k5
 have e : (((((!true) || (x.k != y.k)) || (!((T x.n).toList == (T y.n).toList))) || (t && (x.a != y.a)))) = false := by
  rw [T_eq, hxy.k, hxy.n]
  cases ht : t with
  | false => simp
  | true => rw [hxy.a ht]; simp
 refine ⟨true, rfl, p, fun _ => g1, x.k, fun _ => g5'.at1 0 _ rfl, q, fun _ => k1, y.k, fun _ => k5'.at1 0 _ rfl, p, fun _ => g1, _, fun _ => g5'.at1 1 _ rfl, q, fun _ => k1, _, fun _ => k5'.at1 1 _ rfl, p, fun _ _ => g1, _, fun _ _ => ac_last g5', q, fun _ _ => k1, _, fun _ _ => ac_last k5', fun hh => ?_, fun _ w4 hO4 => ⟨xs.length - (n + 1), by omega, n + 1, by rw [wr' (by omega) (by omega)]; rfl, by omega, rfl, (hO01.tr0 hO2).tr0 hO4⟩⟩
 rw [e] at hh
 cases hh
theorem sameMove_c {x y : Mv} {cs ds : List Value} (hx : rMv false w F x cs) (hy : rMv false w G y ds) (hE : MvE t x y) : Calls Tryz.prog 82 #[.agg cs.toArray, .agg ds.toArray, .bool t] w fun r w' => r = .returned (.bool true) /\ Only [] w w' := by
 obtain ⟨gc, asl, tg, rfl, h1, h2, h3⟩ := hx
 obtain ⟨gc', asl', tg', rfl, k1, k2, k3⟩ := hy
 have h1' := h1
 have k1' := k1
 obtain ⟨sx, rfl⟩ := rE_cells h1
 obtain ⟨sy, rfl⟩ := rE_cells k1
 refine ret (v32w x.k (T x.ev) x.wt x.gd x.g.k x.g.n (T x.g.s) x.g.op sx x.g.a asl tg x.a y.k (T y.ev) y.wt y.gd y.g.k y.g.n (T y.g.s) y.g.op sy y.g.a asl' tg' y.a t (fun v w' => v = .bool true /\ Only [] w w') w ?_)
 unfold v32v
 intro k0 k1 w0 hk0 hk0' hk1 hk1' hO0
 refine (sameE_c ((rE_ok false).only h1' hO0 (by simp)) ((rE_ok false).only k1' hO0 (by simp)) hE.g).mono ?_
 rintro _ w1 ⟨rfl, hO1⟩
 have z0 := hO0.size
 have z1 := hO1.size
 have hO01 := hO0.tr0 hO1
 refine ⟨_, rfl, hO1.same (by simp; omega), (sameActs_c (SliceF.only (rAc_ok false) (by decide) h2.1 hO01 (by simp)) (SliceF.only (rAc_ok false) (by decide) k2.1 hO01 (by simp)) hE.acts).mono ?_⟩
 rintro _ w2 ⟨rfl, hO2⟩
 have z2 := hO2.size
 have hO02 := hO01.tr0 hO2
 refine ⟨_, rfl, hO2.same (by simp; omega), (same6_c (SliceF.only rTx_ok (by decide) h3.1 hO02 (by simp)) (SliceF.only rTx_ok (by decide) k3.1 hO02 (by simp))).mono ?_⟩
 rintro _ w3 ⟨rfl, hO3⟩
 refine ⟨_, rfl, hO3.same (by simp; omega), ?_, hO02.tr0 hO3⟩
 rw [T_eq, decide_eq_true hE.tg, hE.k, hE.ev, hE.wt, hE.gd]
 cases ht : t with
 | false => simp
 | true => rw [hE.a ht]; simp
theorem sameNode_c : ∀ (d : Nat) {w : World} {F G : Nat -> Prop} {x y : Nd} {cs ds : List Value}, rNd false d w F x cs -> rNd false d w G y ds -> NdE t d x y -> Calls Tryz.prog 45 #[.agg cs.toArray, .agg ds.toArray, .bool t] w fun r w' => r = .returned (.bool true) /\ Only [] w w'
 | 0, _, _, _, _, _, _, _, h, _, _ => h.elim
 | d + 1, w, F, G, x, y, cs, ds, ⟨en, lv, mv, kids, hcs, h1, h2⟩, ⟨en', lv', mv', kids', hds, k1, k2⟩, hE => by
  subst hcs hds
  obtain ⟨hE, hK⟩ := hE
  refine ret (v33w x.b.k (T x.b.nm) (T x.b.ini) (T x.b.dft) en lv mv kids x.b.a y.b.k (T y.b.nm) (T y.b.ini) (T y.b.dft) en' lv' mv' kids' y.b.a t (fun v w' => v = .bool true /\ Only [] w w') w ?_)
  unfold v33v
  intro k0 k1' w0 hk0 hk0' hk1 hk1' hO0
  have z0 := hO0.size
  have m1 := h1.2.2.1.len
  have m2 := k1.2.2.1.len
  have m3 := hE.mv.1
  have m4 := h1.2.2.1.cap
  have m5 := h1.2.2.1.big
  have n1 := h2.1.len
  have n2 := k2.1.len
  have n3 := hK.1
  have n4 := h2.1.cap
  have n5 := h2.1.big
  have e : ((((((((x.b.k != y.b.k) || (!((T x.b.nm).toList == (T y.b.nm).toList))) || (!((T x.b.ini).toList == (T y.b.ini).toList))) || (!((T x.b.dft).toList == (T y.b.dft).toList))) || (t && (x.b.a != y.b.a))) || ((mv.n : Int) != (mv'.n : Int))) || ((kids.n : Int) != (kids'.n : Int)))) = false := by
   rw [T_eq, T_eq, T_eq, hE.k, hE.nm, hE.ini, hE.dft, show mv.n = mv'.n by omega, show kids.n = kids'.n by omega]
   cases ht : t with
   | false => simp
   | true => rw [hE.a ht]; simp
  refine ⟨fun hh => (by rw [e] at hh; cases hh), fun _ => (sameActs_c (SliceF.only (rAc_ok false) (by decide) h1.1.1 hO0 (by simp)) (SliceF.only (rAc_ok false) (by decide) k1.1.1 hO0 (by simp)) hE.en).mono ?_⟩
  rintro _ w1 ⟨rfl, hO1⟩
  have z1 := hO1.size
  have hO01 := hO0.tr0 hO1
  refine ⟨_, rfl, hO1.same (by simp; omega), (sameActs_c (SliceF.only (rAc_ok false) (by decide) h1.2.1.1 hO01 (by simp)) (SliceF.only (rAc_ok false) (by decide) k1.2.1.1 hO01 (by simp)) hE.lv).mono ?_⟩
  rintro _ w2 ⟨rfl, hO2⟩
  have z2 := hO2.size
  have hO02 := hO01.tr0 hO2
  refine ⟨_, rfl, hO2.same (by simp; omega), fun hh => (by cases hh), fun _ => ?_⟩
  refine ⟨fun nv i w' => ∃ n : Nat, i = (n : Int) /\ n <= mv.n /\ nv = mv.n - n /\ Only [] w w' /\ w2.heap.size <= w'.heap.size, mv.n, ⟨0, rfl, Nat.zero_le _, rfl, hO02, Nat.le_refl _⟩, ?_⟩
  rintro nv _ w3 ⟨n, rfl, hn, rfl, hO03, z3⟩
  refine ⟨fun hlt => ?_, fun hge => ?_⟩
  · have hlt : n < mv.n := by have := of_decide_eq_true hlt; omega
    obtain ⟨p, xm, ms, g1, g2, _⟩ := h1.2.2.1.get (i := (n : Int)) (by omega) (by omega)
    obtain ⟨q, ym, ns, q1, q2, _⟩ := k1.2.2.1.get (i := (n : Int)) (by omega) (by omega)
    rw [Int.toNat_natCast] at g2 q2
    refine ⟨p, g1, fun w4 hO4 => ?_⟩
    have hO04 := hO03.tr0 hO4
    have z4 := hO4.size
    obtain ⟨p', x', cs', a1, a2, _, _, a5, a6⟩ := (SliceF.only (rMv_ok false) (by decide) h1.2.2.1 hO04 (by simp)).get (i := (n : Int)) (by omega) (by omega)
    obtain ⟨q', y', ds', b1, b2, _, _, b5, b6⟩ := (SliceF.only (rMv_ok false) (by decide) k1.2.2.1 hO04 (by simp)).get (i := (n : Int)) (by omega) (by omega)
    rw [Int.toNat_natCast, g2] at a2
    rw [Int.toNat_natCast, q2] at b2
    injection a2 with a2
    injection b2 with b2
    subst a2 b2
    obtain rfl := g1.uniq a1
    obtain rfl := q1.uniq b1
    have a6' := a6
    have b6' := b6
    obtain ⟨gc, asl, tg, rfl, c1, _, _⟩ := a6
    obtain ⟨gc', asl', tg', rfl, c2, _, _⟩ := b6
    obtain ⟨sx, rfl⟩ := rE_cells c1
    obtain ⟨sy, rfl⟩ := rE_cells c2
    refine ⟨_, _, _, _, _, _, _, _, sx, _, asl, tg, _, a5, q, q1, _, _, _, _, _, _, _, _, sy, _, asl', tg', _, b5, (sameMove_c a6' b6' (hE.mv.2 n _ _ g2 q2)).mono ?_⟩
    rintro _ w5 ⟨rfl, hO5⟩
    exact ⟨true, rfl, hO5.same (by simp; omega), fun hh => (by cases hh), fun _ => ⟨mv.n - (n + 1), by omega, n + 1, by rw [wr' (by omega) (by omega)]; rfl, by omega, rfl, hO04.tr0 hO5, Nat.le_trans (by omega) hO5.size⟩⟩
  · refine ⟨fun nv i w' => ∃ n : Nat, i = (n : Int) /\ n <= kids.n /\ nv = kids.n - n /\ Only [] w w' /\ w2.heap.size <= w'.heap.size, kids.n, ⟨0, rfl, Nat.zero_le _, rfl, hO03, z3⟩, ?_⟩
    clear hge hn z3 hO03
    rintro nv _ w6 ⟨n, rfl, hn, rfl, hO06, z6⟩
    refine ⟨fun hlt => ?_, fun _ => ⟨rfl, hO06⟩⟩
    have hlt : n < kids.n := by have := of_decide_eq_true hlt; omega
    obtain ⟨p, xm, ms, g1, g2, _⟩ := h2.1.get (i := (n : Int)) (by omega) (by omega)
    obtain ⟨q, ym, ns, q1, q2, _⟩ := k2.1.get (i := (n : Int)) (by omega) (by omega)
    rw [Int.toNat_natCast] at g2 q2
    refine ⟨p, g1, fun w7 hO7 => ?_⟩
    have hO07 := hO06.tr0 hO7
    have z7 := hO7.size
    obtain ⟨p', x', cs', a1, a2, _, _, a5, a6⟩ := (SliceF.only (rNd_ok false d) (by decide) h2.1 hO07 (by simp)).get (i := (n : Int)) (by omega) (by omega)
    obtain ⟨q', y', ds', b1, b2, _, _, b5, b6⟩ := (SliceF.only (rNd_ok false d) (by decide) k2.1 hO07 (by simp)).get (i := (n : Int)) (by omega) (by omega)
    rw [Int.toNat_natCast, g2] at a2
    rw [Int.toNat_natCast, q2] at b2
    injection a2 with a2
    injection b2 with b2
    subst a2 b2
    obtain rfl := g1.uniq a1
    obtain rfl := q1.uniq b1
    have hE' := hK.2 n _ _ g2 q2
    cases d with
    | zero => exact a6.elim
    | succ d =>
     have a6' := a6
     have b6' := b6
     obtain ⟨xe, xl, xm', xk, rfl, _⟩ := a6
     obtain ⟨ye, yl, ym', yk, rfl, _⟩ := b6
     refine ⟨_, _, _, _, xe, xl, xm', xk, _, a5, q, q1, _, _, _, _, ye, yl, ym', yk, _, b5, (sameNode_c (d + 1) a6' b6' hE').mono ?_⟩
     rintro _ w8 ⟨rfl, hO8⟩
     exact ⟨true, rfl, hO8.same (by simp; omega), fun hh => (by cases hh), fun _ => ⟨kids.n - (n + 1), by omega, n + 1, by rw [wr' (by omega) (by omega)]; rfl, by omega, rfl, hO07.tr0 hO8, Nat.le_trans (by omega) hO8.size⟩⟩
theorem sameCh_c {d : Nat} {x y : Ch} {vs vs' : Sl} {cs ds : List Value} (hx : ChR false d w F x vs cs) (hy : ChR false d w G y vs' ds) (hE : ChE t d x y) : Calls Tryz.prog 14 #[.agg (vs.v :: cs).toArray, .agg (vs'.v :: ds).toArray, .bool t] w fun r w' => r = .returned (.bool true) /\ Only [] w w' := by
 have hr := hx.root
 have hr' := hy.root
 cases d with
 | zero => exact hr.elim
 | succ d =>
  obtain ⟨en, lv, mv, kids, rfl, _⟩ := hx.root
  obtain ⟨en', lv', mv', kids', rfl, _⟩ := hy.root
  refine ret (v34w vs x.root.b.k (T x.root.b.nm) (T x.root.b.ini) (T x.root.b.dft) en lv mv kids x.root.b.a vs' y.root.b.k (T y.root.b.nm) (T y.root.b.ini) (T y.root.b.dft) en' lv' mv' kids' y.root.b.a t (fun v w' => v = .bool true /\ Only [] w w') w ?_)
  unfold v34v
  have m1 := hx.vars.1.len
  have m2 := hy.vars.1.len
  have m3 := hE.vars.1
  have m4 := hx.vars.1.cap
  have m5 := hx.vars.1.big
  refine ⟨fun hc => ?_, fun _ k2 k3 w1 hk2 hk2' hk3 hk3' hO1 => ?_⟩
  · have : ¬ (vs.n : Int) = (vs'.n : Int) := by simpa using hc
    omega
  have z1 := hO1.size
  refine ⟨fun nv i w' => ∃ n : Nat, i = (n : Int) /\ n <= vs.n /\ nv = vs.n - n /\ Only [] w w' /\ w1.heap.size <= w'.heap.size, vs.n, ⟨0, rfl, Nat.zero_le _, rfl, hO1, Nat.le_refl _⟩, ?_⟩
  rintro nv _ w2 ⟨n, rfl, hn, rfl, hO2, z2⟩
  refine ⟨fun hlt => ?_, fun _ => ?_⟩
  · have hlt : n < vs.n := by have := of_decide_eq_true hlt; omega
    obtain ⟨p, a, ms, g1, g2, _, _, g5, g6⟩ := (SliceF.only rVr_ok (by decide) hx.vars.1 hO2 (by simp)).get (i := (n : Int)) (by omega) (by omega)
    obtain ⟨q, b, ns, q1, q2, _, _, q5, q6⟩ := (SliceF.only rVr_ok (by decide) hy.vars.1 hO2 (by simp)).get (i := (n : Int)) (by omega) (by omega)
    rw [Int.toNat_natCast] at g2 q2
    unfold rVr at g6 q6
    subst g6 q6
    have hv := hE.vars.2 n _ _ g2 q2
    have e : ((((!((T a.n).toList == (T b.n).toList)) || (a.v != b.v)) || (t && (a.a != b.a)))) = false := by
     rw [T_eq, hv.n, hv.v]
     cases ht : t with
     | false => simp
     | true => rw [hv.a ht]; simp
    refine ⟨p, g1, _, g5.at1 0 _ rfl, q, q1, _, q5.at1 0 _ rfl, p, fun _ => g1, _, fun _ => g5.at1 1 _ rfl, q, fun _ => q1, _, fun _ => q5.at1 1 _ rfl, p, fun _ _ => g1, _, fun _ _ => g5.at1 2 _ rfl, q, fun _ _ => q1, _, fun _ _ => q5.at1 2 _ rfl, fun hh => (by rw [e] at hh; cases hh), fun _ w4 hO4 => ⟨vs.n - (n + 1), by omega, n + 1, by rw [wr' (by omega) (by omega)]; rfl, by omega, rfl, hO2.tr0 hO4, Nat.le_trans z2 hO4.size⟩⟩
  · refine (sameNode_c (d + 1) ((rNd_ok false _).only hr hO2 (by simp)) ((rNd_ok false _).only hr' hO2 (by simp)) hE.root).mono ?_
    rintro _ w5 ⟨rfl, hO5⟩
    exact ⟨true, rfl, hO5.same (by simp; omega), rfl, hO2.tr0 hO5⟩
end
end Go.Proofs.YtndkfaaeeojeiaaGreatDoor.Con
namespace Go.Proofs.YtndkfaaeeojeiaaGreatDoor.Con
open Go Go.RowKit Go.Kt Go.Kt.V
set_option linter.unusedSimpArgs false
set_option linter.unusedVariables false
set_option maxHeartbeats 4000000
theorem nofF {p : Prop} : false = true -> p := fun h => by cases h
theorem row0 {α : Type} {R : α -> α -> Prop} : Row2 R [] [] := ⟨rfl, fun i x y hx _ => by simp at hx⟩
theorem row1 {α : Type} {R : α -> α -> Prop} {x y : α} {xs ys : List α} (h : R x y) (k : Row2 R xs ys) : Row2 R (x :: xs) (y :: ys) := ⟨by rw [List.length_cons, List.length_cons, k.1], fun i a b ha hb => by
 cases i with
 | zero =>
  simp only [List.getElem?_cons_zero, Option.some.injEq] at ha hb
  subst ha hb
  exact h
 | succ i => exact k.2 i a b (by simpa using ha) (by simpa using hb)⟩
def mvS (s : Sx) (n : Nat) (a m k : Nat) : Sx := { s with i := s.i + n, a := s.a - a, m := s.m - m, n := s.n - k }
theorem mvS_mvS (s : Sx) (n a m k n' a' m' k' : Nat) : mvS (mvS s n a m k) n' a' m' k' = mvS s (n + n') (a + a') (m + m') (k + k') := by
 unfold mvS
 simp only [Sx.mk.injEq, true_and]
 refine ⟨by omega, ?_, ?_, ?_⟩ <;> omega
theorem mvS0 (s : Sx) : mvS s 0 0 0 0 = s := by
 unfold mvS
 cases s
 simp
theorem next_mv (s : Sx) : nextS s = mvS s 1 0 0 0 := by
 unfold nextS mvS
 cases s
 simp
theorem endL_end {ts : List Tk} (h : EndL ts) (h0 : 0 < ts.length) : endN ts + 1 = ts.length := by
 have h1 := endN_le ts
 have h2 : endN ts < ts.length := by
  refine Decidable.byContradiction fun hn => ?_
  have := endN_lt ts (ts.length - 1) (by omega)
  exact this ((h _ (by omega)).2 (by omega))
 exact (h _ h2).1 (endN_at ts h2)
theorem tk_lt {ts : List Tk} {i : Nat} (h : (tk ts i).k ≠ 5) : i < ts.length := Decidable.byContradiction fun hn => h (by
 unfold tk
 rw [List.getElem?_eq_none (by omega)]
 rfl)
def whK (q : K3) (l : List (List UInt8)) : Nat := if q.1 ≠ 2 /\ q.1 ≠ 4 then 0 else if ixS q.2.1 l < l.length then ixS q.2.1 l + 1 else 0
section
variable {ts : List Tk} {s : Sx} {q : K3} {A : List K3}
theorem which_at (h0 : s.fc = 0) (h : At ts s.i (q :: A)) (l : List (List UInt8)) : whichS ts s l = whK q l := by
 obtain ⟨h1, h2, _⟩ := h.head
 unfold whichS whK
 rw [h1, h2]
 by_cases hc : q.1 ≠ 2 /\ q.1 ≠ 4
 · rw [if_pos (.inr hc), if_pos hc]
 · rw [if_neg (fun h => h.elim (fun e => e h0) hc), if_neg hc]
theorem must_at (h0 : s.fc = 0) {x : List UInt8} (h : At ts s.i (q :: A)) (hq : whK q [x] = 1) : mustS ts s x = mvS s 1 0 0 0 := by
 unfold mustS
 rw [which_at h0 h, hq, if_neg (by decide), next_mv]
theorem kind_at (h0 : s.fc = 0) {k : Int} (h : At ts s.i (q :: A)) (hq : q.1 = k) : (kindS ts s k).1.t = q.2.1 /\ (kindS ts s k).1.n = q.2.2 /\ (kindS ts s k).2 = mvS s 1 0 0 0 := by
 obtain ⟨h1, h2, h3⟩ := h.head
 unfold kindS
 rw [if_neg (fun hn => hn.elim (fun e => e h0) fun e => e (by rw [h1, hq])), next_mv]
 exact ⟨h2, h3, rfl⟩
theorem name_at (h0 : s.fc = 0) {x : List UInt8} (h : At ts s.i ((1, x, 0) :: A)) : nameS ts s = (x, mvS s 1 0 0 0) := by
 obtain ⟨a, b, c⟩ := kind_at (k := 1) h0 h rfl
 unfold nameS
 rw [a, c]
theorem At.go {L M : List K3} {a m k : Nat} (h : At ts s.i (L ++ M)) : At ts (mvS s L.length a m k).i M := h.right
theorem dec_sub {x : Int} (h1 : 1 <= x) (h2 : x <= 1000) : dec x = x - 1 := by
 unfold dec
 rw [wr' (by omega) (by omega)]
end
theorem none_same {x : Ex} (h : noneX x = true) : ExE false x ex0 := by
 obtain ⟨k, n, s, op, l, a⟩ := x
 unfold noneX at h
 simp only [Bool.and_eq_true, beq_iff_eq, decide_eq_true_eq] at h
 obtain ⟨⟨⟨⟨h1, h2⟩, h3⟩, h4⟩, h5⟩ := h
 obtain rfl : k = 0 := h1
 obtain rfl : n = 0 := h2
 obtain rfl : s = [] := h3
 obtain rfl : op = 0 := h4
 have h6 : (l.length : Int) = 0 := h5
 obtain rfl : l = [] := List.eq_nil_of_length_eq_zero (by omega)
 exact fun d => (Sim.leaf 0 0 [] 0 a 0).same d
section
variable {ts : List Tk} (hE : EndL ts)
include hE
theorem expr_r {s : Sx} (h0 : s.fc = 0) {x : Ex} (h : exOk x = true) (hn : okN x) {q : K3} {A : List K3} (hat : At ts s.i (exK x ++ q :: A)) (hq : q.1 = 4 /\ (q.2.1 = [59] ∨ q.2.1 = [93])) :
  ExE false x (exprS ts s).1 /\ (exprS ts s).2 = mvS s (exK x).length 0 0 0 := by
 obtain ⟨h1, h2, h3, h4, h5⟩ := ex_ok h hn
 have hL := h2
 generalize exX x = L at *
 have hend : toks L (0 + L.length) = .ok [⟨5, [], 0, ((L.length : Nat) : Int)⟩] := by
  have hd : L.drop L.length = [] := List.drop_of_length_le (Nat.le_refl _)
  have h5 : skN false [] = 0 := rfl
  rw [Nat.zero_add, toks_step (Nat.le_refl _), hd, h5, if_pos (by omega)]
  rfl
 obtain ⟨us, g1, g2⟩ := tx_toks (l := L) (dpX x) (x := x) false 0 (r := []) h1 (hn _) (Nat.zero_le _) (by rw [List.drop_zero, List.append_nil, hL]) (fun c hc => by cases hc) (by rw [<- hL]; exact hend)
 generalize hte : us ++ [(⟨5, [], 0, ((L.length : Nat) : Int)⟩ : Tk)] = te at *
 have t1 : tokensM L = (te, 0, 0) := by rw [tokensM, if_neg (by omega), g1]
 have hul : us.length = (exK x).length := by unfold exK; rw [<- g2, List.length_map]
 have htl : te.length = us.length + 1 := by rw [<- hte, List.length_append, List.length_singleton]
 have hEt : EndL te := by
  have := (tokensM_ok (l := L) (by rw [t1])).1
  rw [t1] at this
  exact this
 have hep := endL_end hEt (by omega)
 unfold readA at h3 h5
 rw [t1] at h3 h5
 dsimp only at h3 h5
 rw [if_neg (by decide)] at h3 h5
 by_cases c1 : (parseA te 0).2.2.1 ≠ 0
 · rw [if_pos c1] at h3
   exact absurd h3 c1
 rw [if_neg c1] at h3 h5
 by_cases c2 : (tk te (parseA te 0).2.1.toNat).k ≠ 5
 · rw [if_pos c2] at h3
   exact absurd h3 (show ¬ (4 : Int) = 0 by decide)
 rw [if_neg c2] at h5
 have c1 := Decidable.not_not.1 c1
 have c2 := Decidable.not_not.1 c2
 dsimp only at h5
 have hp : parseA te 0 = (match parseR te 0 with
  | .error (c, p) => (ex0, 0, c, p)
  | .ok (x, j) => (x, (j : Int), 0, 0)) := by
  unfold parseA
  rw [if_pos ⟨Int.le_refl 0, by omega, hep⟩]
  rfl
 have hM : Em te ts us.length s.i := by
  refine ⟨fun i hi => ?_, fun i hi => ?_, ?_⟩
  · unfold tk
    rw [<- hte]
    rcases Nat.eq_or_lt_of_le hi with e | e
    · rw [<- e, List.getElem?_append_right (Nat.le_refl _), Nat.sub_self]
      rfl
    · rw [List.getElem?_eq_none (by rw [List.length_append, List.length_singleton]; omega)]
      rfl
  · have hi' : i < (exK x).length := by omega
    have e1 := hat.left i _ (List.getElem?_eq_getElem hi')
    have e2 : k3 (tk te i) = (exK x)[i] := by
     have : (us.map k3)[i]? = some (exK x)[i] := by
      rw [g2]
      exact List.getElem?_eq_getElem hi'
     rw [List.getElem?_map, Option.map_eq_some_iff] at this
     obtain ⟨t, w1, w2⟩ := this
     rw [<- w2]
     unfold tk
     rw [<- hte, List.getElem?_append_left hi, w1]
     rfl
    have e3 := e1.trans e2.symm
    unfold k3 at e3
    simp only [Prod.mk.injEq] at e3
    exact e3
  · have := hat.right.head
    rw [<- hul] at this
    rw [this.1, this.2.1]
    exact hq
 cases hr : parseR te 0 with
 | error e =>
  obtain ⟨c, p⟩ := e
  rw [hr] at hp
  exfalso
  rw [hp] at c1 c2
  have hc : c = 0 := c1
  subst hc
  exact exprR_err _ _ _ _ hr rfl
 | ok y =>
  obtain ⟨x0, j⟩ := y
  rw [hr] at hp
  dsimp only at hp
  rw [hp] at c2 h5
  dsimp only at c2 h5
  have hlt : s.i + us.length < ts.length := by
   refine tk_lt fun e => ?_
   have := hat.right.head.1
   rw [<- hul] at this
   rw [this, hq.1] at e
   exact absurd e (by decide)
  obtain ⟨x', k1, k2, k3'⟩ := Rm.expr hM htl hlt (need 0 0) 0 0 0 (Nat.zero_le _) x0 j hr
  have hj : j = us.length := by
   rw [Int.toNat_natCast] at c2
   have := (hEt j (by omega)).1 c2
   omega
  subst hj
  have hps : parseA ts s.i = (x', ((s.i + us.length : Nat) : Int), 0, 0) := by
   unfold parseA
   rw [if_pos ⟨Int.natCast_nonneg _, by omega, endL_end hE (by omega)⟩, Int.toNat_natCast]
   unfold parseR
   rw [Nat.add_zero] at k1
   rw [k1]
  unfold exprS
  rw [if_neg (fun e => e h0), hps]
  dsimp only
  rw [if_neg (fun e => e rfl)]
  refine ⟨(h5.trans k2).same, ?_⟩
  rw [Int.toNat_natCast, hul]
  unfold mvS
  simp
theorem useA_at {s : Sx} (h0 : s.fc = 0) (ha : 1 <= s.a) (hb : s.a <= 1000) : useA ts s = mvS s 0 1 0 0 := by
 unfold useA mvS
 rw [if_neg (by omega), dec_sub ha hb]
 simp
theorem act_r {s : Sx} (h0 : s.fc = 0) (ha : 1 <= s.a) (hb : s.a <= 1000) {a : Ac} (h : acOk a = true) (hn : acN a) {A : List K3} (hat : At ts s.i (acK a ++ A)) : AcE false a (actS ts s).1 /\ (actS ts s).2 = mvS s (acK a).length 1 0 0 := by
 unfold acOk at h
 simp only [Bool.and_eq_true] at h
 obtain ⟨⟨h1, h2⟩, h3⟩ := h
 have h1 := of_decide_eq_true h1
 obtain ⟨k, n, x, at_⟩ := a
 dsimp only at h1 h2 h3
 have hhead : ∃ w A', acK ⟨k, n, x, at_⟩ ++ A = (2, w, 0) :: (1, n, 0) :: A' /\ (whK (2, w, 0) [wSet, wRaise, wEmit] : Nat) = k.toNat := by
  unfold acK
  by_cases hk : k = 2
  · rw [if_pos hk]
    exact ⟨_, _, rfl, by rw [hk]; decide⟩
  · rw [if_neg hk]
    by_cases hk1 : k = 1
    · rw [if_pos hk1]
      exact ⟨_, _, rfl, by rw [hk1]; decide⟩
    · rw [if_neg hk1]
      have : k = 3 := by omega
      exact ⟨_, _, rfl, by rw [this]; decide⟩
 obtain ⟨w, A', e1, e2⟩ := hhead
 have hat' := hat
 rw [e1] at hat'
 have hw := which_at h0 hat' [wSet, wRaise, wEmit]
 rw [e2] at hw
 have hkn : (k.toNat : Int) = k := Int.toNat_of_nonneg (by omega)
 unfold actS
 rw [hw, if_neg (by omega), useA_at (ts := ts) hE h0 ha hb, if_neg (fun e => e h0)]
 rw [next_mv, mvS_mvS, name_at (s := mvS s (0 + 1) (1 + 0) (0 + 0) (0 + 0)) h0 hat'.tail]
 dsimp only
 unfold actT
 by_cases hk : k = 2
 · subst hk
   rw [if_pos (show Int.toNat 2 = 2 from rfl)]
   have h3 : noneX x = true := by simpa using h3
   have ea : acK ⟨2, n, x, at_⟩ = [(2, wRaise, 0), (1, n, 0), kS1 59] := rfl
   rw [ea] at hat ⊢
   have h59 := hat.tail.tail
   rw [must_at (s := mvS (mvS s (0 + 1) (1 + 0) (0 + 0) (0 + 0)) 1 0 0 0) h0 h59 (by decide), mvS_mvS, mvS_mvS]
   exact ⟨⟨rfl, rfl, none_same h3, nofF⟩, rfl⟩
 · rw [if_neg (by omega)]
   rw [if_neg hk] at h3
   have ea : acK ⟨k, n, x, at_⟩ = (2, if k = 1 then wSet else wEmit, 0) :: (1, n, 0) :: kS1 61 :: (exK x ++ [kS1 59]) := by
    unfold acK
    rw [if_neg hk]
   rw [ea] at hat ⊢
   have h61 := hat.tail.tail
   rw [must_at (s := mvS (mvS s (0 + 1) (1 + 0) (0 + 0) (0 + 0)) 1 0 0 0) h0 h61 (by decide), mvS_mvS, mvS_mvS]
   have hx : At ts (s.i + 1 + 1 + 1) ((exK x ++ [kS1 59]) ++ A) := h61.tail
   rw [List.append_assoc] at hx
   obtain ⟨r1, r2⟩ := expr_r hE (s := mvS s (0 + 1 + 1 + 1) (1 + 0 + 0 + 0) (0 + 0 + 0 + 0) (0 + 0 + 0 + 0)) h0 h3 hn (q := kS1 59) (A := A) hx ⟨rfl, .inl rfl⟩
   rw [r2]
   have h59 := hx.right
   rw [must_at (s := mvS (mvS s (0 + 1 + 1 + 1) (1 + 0 + 0 + 0) (0 + 0 + 0 + 0) (0 + 0 + 0 + 0)) (exK x).length 0 0 0) h0 h59 (by decide), mvS_mvS, mvS_mvS]
   refine ⟨⟨hkn.symm, rfl, r1, nofF⟩, ?_⟩
   simp only [List.length_cons, List.length_append, List.length_nil]
   congr 1
   omega
theorem acs_r : ∀ (l : List Ac) (f : Nat) (acc : List Ac) {s : Sx}, s.fc = 0 -> l.length < f -> (l.length : Int) <= s.a -> s.a <= 1000 -> l.all acOk = true -> (∀ a, a ∈ l -> acN a) -> ∀ {A : List K3}, At ts s.i (acsK l ++ kS1 125 :: A) ->
  ∃ r, actsS ts f acc s = (acc ++ r, mvS s ((acsK l).length + 1) l.length 0 0) /\ Row2 (AcE false) l r
 | [], f, acc, s, h0, hf, ha, hb, h, hn, A, hat => by
  obtain ⟨f, rfl⟩ : ∃ g, f = g + 1 := ⟨f - 1, by rw [List.length_nil] at hf; omega⟩
  have hat : At ts s.i (kS1 125 :: A) := hat
  rw [actsS, if_neg (fun e => e h0), which_at h0 hat, if_pos (by decide), next_mv]
  exact ⟨[], by rw [List.append_nil]; rfl, row0⟩
 | a :: l, f, acc, s, h0, hf, ha, hb, h, hn, A, hat => by
  rw [List.length_cons] at hf ha
  obtain ⟨f, rfl⟩ : ∃ g, f = g + 1 := ⟨f - 1, by omega⟩
  rw [List.all_cons, Bool.and_eq_true] at h
  have hat : At ts s.i ((acK a ++ acsK l) ++ kS1 125 :: A) := hat
  rw [List.append_assoc] at hat
  have hw : whichS ts s [[125]] = 0 := by
   have : ∃ w B, acK a ++ (acsK l ++ kS1 125 :: A) = (2, w, 0) :: B /\ whK (2, w, 0) [[125]] = 0 := by
    unfold acK
    split
    · exact ⟨_, _, rfl, by decide⟩
    · split
      · exact ⟨_, _, rfl, by decide⟩
      · exact ⟨_, _, rfl, by decide⟩
   obtain ⟨w, B, e1, e2⟩ := this
   have hat' := hat
   rw [e1] at hat'
   rw [which_at h0 hat', e2]
  obtain ⟨r1, r2⟩ := act_r hE h0 (by omega) hb h.1 (hn a (by simp)) hat
  rw [actsS, if_neg (fun e => e h0), hw, if_neg (fun e => e rfl), r2]
  obtain ⟨r, e1, e2⟩ := acs_r l f (acc ++ [(actS ts s).1]) (s := mvS s (acK a).length 1 0 0) h0 (by omega) (by unfold mvS; dsimp only; omega) (by unfold mvS; dsimp only; omega) h.2 (fun b hb => hn b (by simp [hb])) hat.right
  refine ⟨(actS ts s).1 :: r, ?_, row1 r1 e2⟩
  rw [e1, mvS_mvS, List.append_assoc]
  simp only [acsK, List.length_append, List.length_cons, List.singleton_append]
  congr 2 <;> omega
theorem acsK_len : ∀ l : List Ac, l.length <= (acsK l).length
 | [] => Nat.le_refl _
 | a :: l => by
  have h1 := acsK_len l
  have h2 : 1 <= (acK a).length := by
   unfold acK
   split <;> simp
  rw [acsK, List.length_append, List.length_cons]
  omega
theorem At.inr {s : Sx} {L : List K3} {q : K3} {A : List K3} (hat : At ts s.i (L ++ q :: A)) (hq : q.1 ≠ 5) : s.i + L.length < ts.length := tk_lt (by rw [hat.right.head.1]; exact hq)
theorem bl_r {s : Sx} (h0 : s.fc = 0) {l : List Ac} (ha : (l.length : Int) <= s.a) (hb : s.a <= 1000) (h : l.all acOk = true) (hn : ∀ a, a ∈ l -> acN a) {A : List K3} (hat : At ts s.i (blK l ++ A)) :
  ∃ r, blockS ts s = (r, mvS s (blK l).length l.length 0 0) /\ Row2 (AcE false) l r := by
 unfold blockS
 have hat : At ts s.i (kS1 123 :: ((acsK l ++ [kS1 125]) ++ A)) := hat
 rw [List.append_assoc] at hat
 have h1 := hat.tail
 have hlt := At.inr hE (s := mvS s 1 0 0 0) (L := acsK l) h1 (by decide)
 rw [must_at h0 hat (by decide)]
 have := acsK_len (ts := ts) hE l
 obtain ⟨r, e1, e2⟩ := acs_r hE l (ts.length + 1) [] (s := mvS s 1 0 0 0) h0 (by omega) (by unfold mvS; dsimp only; omega) (by unfold mvS; dsimp only; omega) h hn h1
 refine ⟨r, ?_, e2⟩
 rw [e1, mvS_mvS, List.nil_append]
 unfold blK
 simp only [List.length_cons, List.length_append, List.length_nil]
 congr 2
 · omega
 · omega
theorem tg_r : ∀ (l : List (List UInt8)) (f : Nat) (acc : List (List UInt8)) {s : Sx}, s.fc = 0 -> l.length < f -> ∀ {A : List K3}, At ts s.i (tgK l ++ kS1 59 :: A) -> targS ts f [44] acc s = (acc ++ l, mvS s (tgK l).length 0 0 0)
 | [], f, acc, s, h0, hf, A, hat => by
  obtain ⟨f, rfl⟩ : ∃ g, f = g + 1 := ⟨f - 1, by rw [List.length_nil] at hf; omega⟩
  have hat : At ts s.i (kS1 59 :: A) := hat
  rw [targS, which_at h0 hat, if_pos (by decide), List.append_nil]
  show (acc, s) = (acc, mvS s 0 0 0 0)
  rw [mvS0]
 | x :: l, f, acc, s, h0, hf, A, hat => by
  rw [List.length_cons] at hf
  obtain ⟨f, rfl⟩ : ∃ g, f = g + 1 := ⟨f - 1, by omega⟩
  have hat : At ts s.i (kS1 44 :: (1, x, 0) :: (tgK l ++ kS1 59 :: A)) := hat
  rw [targS, which_at h0 hat, if_neg (by decide), next_mv, name_at (s := mvS s 1 0 0 0) h0 hat.tail]
  dsimp only
  rw [mvS_mvS, tg_r l f (acc ++ [x]) (s := mvS s (1 + 1) (0 + 0) (0 + 0) (0 + 0)) h0 (by omega) hat.tail.tail, mvS_mvS, List.append_assoc]
  simp only [tgK, List.length_cons, List.singleton_append]
  congr 2
  omega
theorem tgK_len : ∀ l : List (List UInt8), l.length <= (tgK l).length
 | [] => Nat.le_refl _
 | x :: l => by
  have := tgK_len l
  rw [tgK, List.length_cons, List.length_cons, List.length_cons]
  omega
theorem moveC_r {s : Sx} (h0 : s.fc = 0) (m m0 : Mv) {A : List K3} (hat : At ts s.i ((toK m ++ [kS1 59]) ++ A)) (h0t : m0.tg = []) : moveC ts m0 s = ({ m0 with tg := m.tg }, mvS s (toK m ++ [kS1 59]).length 0 0 0) := by
 unfold moveC
 rw [List.append_assoc] at hat
 have hat2 := hat
 unfold toK at hat ⊢
 cases hm : m.tg with
 | nil =>
  rw [hm] at hat
  have hat : At ts s.i (kS1 59 :: A) := hat
  rw [targS, which_at h0 hat, if_pos (by decide)]
  dsimp only
  rw [must_at h0 hat (by decide)]
  rfl
 | cons x l =>
  rw [hm] at hat
  have hat : At ts s.i (kTo :: (1, x, 0) :: (tgK l ++ kS1 59 :: A)) := hat
  have hlt := At.inr hE (s := mvS s 2 0 0 0) (L := tgK l) hat.tail.tail (by decide)
  have := tgK_len (ts := ts) hE l
  rw [targS, which_at h0 hat, if_neg (by decide), next_mv, name_at (s := mvS s 1 0 0 0) h0 hat.tail]
  dsimp only
  rw [mvS_mvS, tg_r hE l ts.length ([] ++ [x]) (s := mvS s (1 + 1) (0 + 0) (0 + 0) (0 + 0)) h0 (by omega) hat.tail.tail, mvS_mvS]
  dsimp only
  rw [must_at (s := mvS s (1 + 1 + (tgK l).length) (0 + 0 + 0) (0 + 0 + 0) (0 + 0 + 0)) h0 (q := kS1 59) (A := A) (by
   have := hat.tail.tail.right
   have e : s.i + 1 + 1 + (tgK l).length = (mvS s (1 + 1 + (tgK l).length) (0 + 0 + 0) (0 + 0 + 0) (0 + 0 + 0)).i := by unfold mvS; dsimp only; omega
   rw [<- e]
   exact this) (by decide), mvS_mvS]
  simp only [List.length_cons, List.length_append, List.length_nil, List.nil_append, List.singleton_append]
  congr 2
  omega
theorem moveB_r {s : Sx} (h0 : s.fc = 0) (m m0 : Mv) (ha : (m.acts.length : Int) <= s.a) (hb : s.a <= 1000) (h : m.acts.all acOk = true) (hn : ∀ x, x ∈ m.acts -> acN x) {A : List K3} (hat : At ts s.i (((if m.acts = [] then [] else blK m.acts) ++ (toK m ++ [kS1 59])) ++ A)) (h0t : m0.tg = []) (h0a : m0.acts = []) :
  ∃ r, moveB ts m0 s = ({ m0 with acts := r, tg := m.tg }, mvS s ((if m.acts = [] then [] else blK m.acts) ++ (toK m ++ [kS1 59])).length m.acts.length 0 0) /\ Row2 (AcE false) m.acts r := by
 obtain ⟨k0, v0, t0, d0, x0, ac0, g0, p0⟩ := m0
 dsimp only at h0t h0a
 subst h0t h0a
 unfold moveB
 by_cases he : m.acts = []
 · rw [if_pos he] at hat ⊢
   have hw : whichS ts s [[123]] = 0 := by
    have hat2 := hat
    unfold toK at hat2
    cases hm : m.tg with
    | nil =>
     rw [hm] at hat2
     rw [which_at h0 (q := kS1 59) (A := A) hat2]
     decide
    | cons x l =>
     rw [hm] at hat2
     rw [which_at h0 (q := kTo) (A := _) hat2]
     decide
   rw [hw, if_pos rfl, moveC_r hE h0 m _ hat rfl]
   refine ⟨[], ?_, by rw [he]; exact row0⟩
   rw [he]
   rfl
 · rw [if_neg he] at hat ⊢
   rw [List.append_assoc] at hat
   have hw : whichS ts s [[123]] = 1 := by
    rw [which_at h0 (q := kS1 123) hat]
    decide
   obtain ⟨r, e1, e2⟩ := bl_r hE h0 ha hb h hn hat
   rw [hw, if_neg (by decide), e1]
   dsimp only
   rw [moveC_r hE (s := mvS s (blK m.acts).length m.acts.length 0 0) h0 m _ hat.right rfl, mvS_mvS]
   refine ⟨r, ?_, e2⟩
   simp only [List.length_append, Nat.add_zero]
theorem moveA_r {s : Sx} (h0 : s.fc = 0) (m m0 : Mv) (ha : (m.acts.length : Int) <= s.a) (hb : s.a <= 1000) (h : mvOk m = true) (hn : mvN m) {A : List K3} (hat : At ts s.i ((gdK m ++ ((if m.acts = [] then [] else blK m.acts) ++ (toK m ++ [kS1 59]))) ++ A))
  (h0t : m0.tg = []) (h0a : m0.acts = []) (h0g : m0.gd = false) (h0x : m0.g = ex0) :
  ∃ g r, moveA ts m0 s = ({ m0 with gd := m.gd, g := g, acts := r, tg := m.tg }, mvS s (gdK m ++ ((if m.acts = [] then [] else blK m.acts) ++ (toK m ++ [kS1 59]))).length m.acts.length 0 0) /\ ExE false m.g g /\ Row2 (AcE false) m.acts r := by
 unfold mvOk at h
 simp only [Bool.and_eq_true] at h
 obtain ⟨⟨⟨⟨⟨_, _⟩, h3⟩, h4⟩, _⟩, _⟩ := h
 obtain ⟨k0, v0, t0, d0, x0, ac0, g0, p0⟩ := m0
 dsimp only at h0t h0a h0g h0x
 subst h0t h0a h0g h0x
 unfold moveA
 unfold gdK at hat ⊢
 cases hg : m.gd with
 | false =>
  rw [hg] at h3 hat
  simp only [Bool.false_eq_true, if_false, List.nil_append] at h3 hat ⊢
  have hw : whichS ts s [[91]] = 0 := by
   have hat2 := hat
   by_cases he : m.acts = []
   · rw [if_pos he] at hat2
     unfold toK at hat2
     cases hm : m.tg with
     | nil =>
      rw [hm] at hat2
      rw [which_at h0 (q := kS1 59) (A := A) hat2]
      decide
     | cons x l =>
      rw [hm] at hat2
      rw [which_at h0 (q := kTo) (A := _) hat2]
      decide
   · rw [if_neg he] at hat2
     rw [which_at h0 (q := kS1 123) (A := _) hat2]
     decide
  obtain ⟨r, e1, e2⟩ := moveB_r hE h0 m ⟨k0, v0, t0, false, ex0, [], [], p0⟩ ha hb h4 hn.a hat rfl rfl
  rw [hw, if_pos rfl, e1]
  exact ⟨ex0, r, rfl, none_same h3, e2⟩
 | true =>
  rw [hg] at h3 hat
  simp only [if_true] at h3 hat ⊢
  have hat : At ts s.i (kS1 91 :: (exK m.g ++ kS1 93 :: (((if m.acts = [] then [] else blK m.acts) ++ (toK m ++ [kS1 59])) ++ A))) := by simpa using hat
  have hw : whichS ts s [[91]] = 1 := by
   rw [which_at h0 hat]
   decide
  obtain ⟨r1, r2⟩ := expr_r hE (s := mvS s 1 0 0 0) h0 h3 hn.g (q := kS1 93) hat.tail ⟨rfl, .inr rfl⟩
  rw [hw, if_neg (by decide), next_mv, r2, mvS_mvS, must_at (s := mvS s (1 + (exK m.g).length) (0 + 0) (0 + 0) (0 + 0)) h0 (q := kS1 93) (by
   have := hat.tail.right
   have e : s.i + 1 + (exK m.g).length = (mvS s (1 + (exK m.g).length) (0 + 0) (0 + 0) (0 + 0)).i := by unfold mvS; dsimp only; omega
   rw [<- e]
   exact this) (by decide), mvS_mvS]
  obtain ⟨r, e1, e2⟩ := moveB_r hE (s := mvS s (1 + (exK m.g).length + 1) (0 + 0 + 0) (0 + 0 + 0) (0 + 0 + 0)) h0 m ⟨k0, v0, t0, true, (exprS ts (mvS s 1 0 0 0)).1, [], [], p0⟩ (by unfold mvS; dsimp only; omega) (by unfold mvS; dsimp only; omega) h4 hn.a (by
   have := hat.tail.right.tail
   have e : s.i + 1 + (exK m.g).length + 1 = (mvS s (1 + (exK m.g).length + 1) (0 + 0 + 0) (0 + 0 + 0) (0 + 0 + 0)).i := by unfold mvS; dsimp only; omega
   rw [<- e]
   exact this) rfl rfl
  rw [e1, mvS_mvS]
  refine ⟨_, r, ?_, r1, e2⟩
  congr 2 <;> (try simp only [List.length_cons, List.length_append, List.length_nil]) <;> omega
theorem useM_at {s : Sx} (h0 : s.fc = 0) (ha : 1 <= s.m) (hb : s.m <= 1000) : useM ts s = mvS s 0 0 1 0 := by
 unfold useM mvS
 rw [if_neg (by omega), dec_sub ha hb]
 simp
theorem mv_r {s : Sx} (h0 : s.fc = 0) {m : Mv} (ha : (m.acts.length : Int) <= s.a) (hb : s.a <= 1000) (hm1 : 1 <= s.m) (hm2 : s.m <= 1000) (h : mvOk m = true) (hn : mvN m) {A : List K3} (hat : At ts s.i (mvK m ++ A)) :
  whichS ts s [wOn, wAlways, wAfter] = m.k.toNat /\ 1 <= m.k /\ MvE false m (moveS ts m.k s).1 /\ (moveS ts m.k s).2 = mvS s (mvK m).length m.acts.length 1 0 := by
 have h' := h
 unfold mvOk at h'
 simp only [Bool.and_eq_true] at h'
 obtain ⟨⟨⟨⟨⟨h1, h2⟩, _⟩, _⟩, _⟩, h6⟩ := h'
 have h1 := of_decide_eq_true h1
 have h6 := of_decide_eq_true h6
 unfold mvK at hat ⊢
 rw [List.append_assoc] at hat
 unfold moveS
 rw [useM_at (ts := ts) hE h0 hm1 hm2, if_neg (fun e => e h0)]
 generalize hR : gdK m ++ ((if m.acts = [] then [] else blK m.acts) ++ (toK m ++ [kS1 59])) = R at *
 unfold hdK at hat ⊢
 by_cases k1 : m.k = 1
 · rw [if_pos k1] at hat h2 ⊢
   rw [if_pos k1]
   have hat : At ts s.i ((2, wOn, 0) :: (1, m.ev, 0) :: (R ++ A)) := hat
   refine ⟨by rw [which_at h0 hat, k1]; decide, by omega, ?_⟩
   rw [next_mv, mvS_mvS, name_at (s := mvS s (0 + 1) (0 + 0) (1 + 0) (0 + 0)) h0 hat.tail]
   dsimp only
   rw [mvS_mvS]
   obtain ⟨g, r, e1, e2, e3⟩ := moveA_r hE (s := mvS s (0 + 1 + 1) (0 + 0 + 0) (1 + 0 + 0) (0 + 0 + 0)) h0 m { mv0 m.k (tk ts s.i).a with ev := m.ev } (by unfold mvS; dsimp only; omega) (by unfold mvS; dsimp only; omega) h hn (by rw [hR]; exact hat.tail.tail) rfl rfl rfl rfl
   rw [e1, hR, mvS_mvS]
   refine ⟨⟨rfl, rfl, ?_, rfl, e2, e3, rfl, nofF⟩, ?_⟩
   · show m.wt = 0
     omega
   · dsimp only
     congr 1 <;> (try simp only [List.length_cons, List.length_append, List.length_nil]) <;> omega
 · rw [if_neg k1] at hat h2 ⊢
   rw [if_neg k1]
   have h2 := of_decide_eq_true h2
   by_cases k3 : m.k = 3
   · rw [if_pos k3] at hat ⊢
     rw [if_pos k3]
     have hat : At ts s.i ((2, wAfter, 0) :: (3, [], m.wt) :: (R ++ A)) := hat
     refine ⟨by rw [which_at h0 hat, k3]; decide, by omega, ?_⟩
     obtain ⟨c1, c2, c3⟩ := kind_at (s := mvS s (0 + 1) (0 + 0) (1 + 0) (0 + 0)) (k := 3) h0 hat.tail rfl
     rw [next_mv, mvS_mvS, c2, c3]
     dsimp only
     rw [mvS_mvS]
     obtain ⟨g, r, e1, e2, e3⟩ := moveA_r hE (s := mvS s (0 + 1 + 1) (0 + 0 + 0) (1 + 0 + 0) (0 + 0 + 0)) h0 m { mv0 m.k (tk ts s.i).a with wt := m.wt } (by unfold mvS; dsimp only; omega) (by unfold mvS; dsimp only; omega) h hn (by rw [hR]; exact hat.tail.tail) rfl rfl rfl rfl
     rw [e1, hR, mvS_mvS]
     refine ⟨⟨rfl, h2, rfl, rfl, e2, e3, rfl, nofF⟩, ?_⟩
     dsimp only
     congr 1 <;> (try simp only [List.length_cons, List.length_append, List.length_nil]) <;> omega
   · rw [if_neg k3] at hat ⊢
     rw [if_neg k3]
     have hat : At ts s.i ((2, wAlways, 0) :: (R ++ A)) := hat
     have k2 : m.k = 2 := by omega
     refine ⟨by rw [which_at h0 hat, k2]; decide, by omega, ?_⟩
     rw [next_mv, mvS_mvS]
     obtain ⟨g, r, e1, e2, e3⟩ := moveA_r hE (s := mvS s (0 + 1) (0 + 0) (1 + 0) (0 + 0)) h0 m (mv0 m.k (tk ts s.i).a) (by unfold mvS; dsimp only; omega) (by unfold mvS; dsimp only; omega) h hn (by rw [hR]; exact hat.tail) rfl rfl rfl rfl
     rw [e1, hR, mvS_mvS]
     refine ⟨⟨rfl, h2, ?_, rfl, e2, e3, rfl, nofF⟩, ?_⟩
     · show m.wt = 0
       omega
     · dsimp only
       congr 1 <;> (try simp only [List.length_cons, List.length_append, List.length_nil]) <;> omega
end
def NdS2 (x y : Nd) : Prop := ∀ d, NdE false d x y
theorem nds_mk2 {b b' : Nb} {l l' : List Nd} (h : NbE false b b') (k : Row2 NdS2 l l') : NdS2 (.mk b l) (.mk b' l') := fun d => by
 cases d with
 | zero => trivial
 | succ d => exact ⟨h, k.1, fun i x y hx hy => k.2 i x y hx hy d⟩
def stopQ (q : K3) : Prop := whK q [wOn, wAlways, wAfter] = 0 /\ whK q [wInitial, wEnter, wLeave] = 0 /\ q.1 ≠ 5
def acSum (l : List Mv) : Nat := (l.map fun m => m.acts.length).sum
theorem nbA_eq (b : Nb) : nbA b = b.en.length + (b.lv.length + acSum b.mv) := by unfold nbA acSum; omega
section
variable {ts : List Tk} (hE : EndL ts)
include hE
theorem cl_ini {s : Sx} (h0 : s.fc = 0) (n : Nb) {h : Had} (hi : h.i = false) {x : List UInt8} {A : List K3} (hat : At ts s.i ((2, wInitial, 0) :: (1, x, 0) :: kS1 59 :: A)) : clauseS ts n h s = (true, { n with ini := x }, { h with i := true }, mvS s 3 0 0 0) := by
 unfold clauseS
 have w1 : whichS ts s [wOn, wAlways, wAfter] = 0 := by rw [which_at h0 hat]; decide
 have w2 : whichS ts s [wInitial, wEnter, wLeave] = 1 := by rw [which_at h0 hat]; decide
 rw [w1, if_neg (fun e => e rfl), w2]
 show (if h.i = true then (false, n, h, wrongS ts s) else (true, { n with ini := (nameS ts (nextS s)).1 }, { h with i := true }, mustS ts (nameS ts (nextS s)).2 [59])) = _
 rw [hi, if_neg (by decide), next_mv, name_at (s := mvS s 1 0 0 0) h0 hat.tail]
 dsimp only
 rw [must_at (s := mvS (mvS s 1 0 0 0) 1 0 0 0) h0 hat.tail.tail (by decide), mvS_mvS, mvS_mvS]
theorem cl_en {s : Sx} (h0 : s.fc = 0) (n : Nb) {h : Had} (hi : h.e = false) {l : List Ac} (ha : (l.length : Int) <= s.a) (hb : s.a <= 1000) (hl : l.all acOk = true) (hn : ∀ a, a ∈ l -> acN a) {A : List K3} (hat : At ts s.i ((2, wEnter, 0) :: (blK l ++ A))) :
  ∃ r, clauseS ts n h s = (true, { n with en := r }, { h with e := true }, mvS s ((blK l).length + 1) l.length 0 0) /\ Row2 (AcE false) l r := by
 unfold clauseS
 have w1 : whichS ts s [wOn, wAlways, wAfter] = 0 := by rw [which_at h0 hat]; decide
 have w2 : whichS ts s [wInitial, wEnter, wLeave] = 2 := by rw [which_at h0 hat]; decide
 rw [w1, if_neg (fun e => e rfl), w2]
 obtain ⟨r, e1, e2⟩ := bl_r hE (s := mvS s 1 0 0 0) h0 (by unfold mvS; dsimp only; omega) (by unfold mvS; dsimp only; omega) hl hn hat.tail
 suffices hh : (if h.e = true then (false, n, h, wrongS ts s) else (true, { n with en := (blockS ts (nextS s)).1 }, { h with e := true }, (blockS ts (nextS s)).2)) = (true, { n with en := r }, { h with e := true }, mvS s ((blK l).length + 1) l.length 0 0) from ⟨r, hh, e2⟩
 rw [hi, if_neg (by decide), next_mv, e1]
 dsimp only
 rw [mvS_mvS]
 congr 4 <;> omega
theorem cl_lv {s : Sx} (h0 : s.fc = 0) (n : Nb) {h : Had} (hi : h.l = false) {l : List Ac} (ha : (l.length : Int) <= s.a) (hb : s.a <= 1000) (hl : l.all acOk = true) (hn : ∀ a, a ∈ l -> acN a) {A : List K3} (hat : At ts s.i ((2, wLeave, 0) :: (blK l ++ A))) :
  ∃ r, clauseS ts n h s = (true, { n with lv := r }, { h with l := true }, mvS s ((blK l).length + 1) l.length 0 0) /\ Row2 (AcE false) l r := by
 unfold clauseS
 have w1 : whichS ts s [wOn, wAlways, wAfter] = 0 := by rw [which_at h0 hat]; decide
 have w2 : whichS ts s [wInitial, wEnter, wLeave] = 3 := by rw [which_at h0 hat]; decide
 rw [w1, if_neg (fun e => e rfl), w2]
 obtain ⟨r, e1, e2⟩ := bl_r hE (s := mvS s 1 0 0 0) h0 (by unfold mvS; dsimp only; omega) (by unfold mvS; dsimp only; omega) hl hn hat.tail
 suffices hh : (if h.l = true then (false, n, h, wrongS ts s) else (true, { n with lv := (blockS ts (nextS s)).1 }, { h with l := true }, (blockS ts (nextS s)).2)) = (true, { n with lv := r }, { h with l := true }, mvS s ((blK l).length + 1) l.length 0 0) from ⟨r, hh, e2⟩
 rw [hi, if_neg (by decide), next_mv, e1]
 dsimp only
 rw [mvS_mvS]
 congr 4 <;> omega
theorem cl_mv {s : Sx} (h0 : s.fc = 0) (n : Nb) (h : Had) {m : Mv} (ha : (m.acts.length : Int) <= s.a) (hb : s.a <= 1000) (hm1 : 1 <= s.m) (hm2 : s.m <= 1000) (hm : mvOk m = true) (hn : mvN m) {A : List K3} (hat : At ts s.i (mvK m ++ A)) :
  ∃ r, clauseS ts n h s = (true, { n with mv := n.mv ++ [r] }, h, mvS s (mvK m).length m.acts.length 1 0) /\ MvE false m r := by
 obtain ⟨h1, h2, h3, h4⟩ := mv_r hE h0 ha hb hm1 hm2 hm hn hat
 unfold clauseS
 rw [h1, if_pos (by omega), Int.toNat_of_nonneg (by omega), h4]
 exact ⟨_, rfl, h3⟩
theorem cl_stop {s : Sx} (h0 : s.fc = 0) (n : Nb) (h : Had) {q : K3} {A : List K3} (hq : stopQ q) (hat : At ts s.i (q :: A)) : clauseS ts n h s = (false, n, h, s) := by
 unfold clauseS
 rw [which_at h0 hat, which_at h0 hat, hq.1, hq.2.1, if_neg (fun e => e rfl)]
 rfl
theorem cls_step {s : Sx} (h0 : s.fc = 0) {f : Nat} {n n' : Nb} {h h' : Had} {s' : Sx} (hc : clauseS ts n h s = (true, n', h', s')) : clausesS ts (f + 1) n h s = clausesS ts f n' h' s' := by
 rw [clausesS, if_neg (fun e => e h0), hc]
 rfl
theorem mvs_r : ∀ (l : List Mv) (f : Nat) (n : Nb) (h : Had) {s : Sx}, s.fc = 0 -> l.length < f -> (acSum l : Int) <= s.a -> s.a <= 1000 -> (l.length : Int) <= s.m -> s.m <= 1000 -> l.all mvOk = true -> (∀ m, m ∈ l -> mvN m) -> ∀ {q : K3} {A : List K3}, stopQ q -> At ts s.i (mvsK l ++ q :: A) ->
  ∃ r, clausesS ts f n h s = ({ n with mv := n.mv ++ r }, mvS s (mvsK l).length (acSum l) l.length 0) /\ Row2 (MvE false) l r
 | [], f, n, h, s, h0, hf, ha, hb, hm1, hm2, hl, hn, q, A, hq, hat => by
  obtain ⟨f, rfl⟩ : ∃ g, f = g + 1 := ⟨f - 1, by rw [List.length_nil] at hf; omega⟩
  have hat : At ts s.i (q :: A) := hat
  rw [clausesS, if_neg (fun e => e h0), cl_stop hE h0 n h hq hat]
  refine ⟨[], ?_, row0⟩
  rw [List.append_nil]
  show (n, s) = (n, mvS s 0 0 0 0)
  rw [mvS0]
 | m :: l, f, n, h, s, h0, hf, ha, hb, hm1, hm2, hl, hn, q, A, hq, hat => by
  rw [List.length_cons] at hf hm1
  obtain ⟨f, rfl⟩ : ∃ g, f = g + 1 := ⟨f - 1, by omega⟩
  rw [List.all_cons, Bool.and_eq_true] at hl
  have es : acSum (m :: l) = m.acts.length + acSum l := by unfold acSum; rw [List.map_cons, List.sum_cons]
  rw [es] at ha
  have hat : At ts s.i ((mvK m ++ mvsK l) ++ q :: A) := hat
  rw [List.append_assoc] at hat
  obtain ⟨x, e1, e2⟩ := cl_mv hE h0 n h (by omega) hb (by omega) hm2 hl.1 (hn m (by simp)) hat
  rw [cls_step hE h0 e1]
  obtain ⟨r, e3, e4⟩ := mvs_r l f { n with mv := n.mv ++ [x] } h (s := mvS s (mvK m).length m.acts.length 1 0) h0 (by omega) (by unfold mvS; dsimp only; omega) (by unfold mvS; dsimp only; omega) (by unfold mvS; dsimp only; omega) (by unfold mvS; dsimp only; omega) hl.2 (fun y hy => hn y (by simp [hy])) hq hat.right
  refine ⟨x :: r, ?_, row1 e2 e4⟩
  rw [e3, mvS_mvS, es]
  simp only [mvsK, List.length_append, List.length_cons, List.append_assoc, List.singleton_append]
  congr 2
  omega
theorem mvsK_len : ∀ l : List Mv, l.length <= (mvsK l).length
 | [] => Nat.le_refl _
 | m :: l => by
  have h1 := mvsK_len l
  have h2 : 1 <= (mvK m).length := by
   unfold mvK hdK
   rw [List.length_append]
   split
   · simp only [List.length_cons]; omega
   · split <;> (simp only [List.length_cons]; omega)
  rw [mvsK, List.length_append, List.length_cons]
  omega
theorem lvs_r {f : Nat} {n : Nb} {h : Had} {s : Sx} {b : Nb} (h0 : s.fc = 0) (hf : (lvK b).length + b.mv.length < f) (ha : (b.lv.length + acSum b.mv : Nat) <= s.a) (hb : s.a <= 1000) (hm1 : (b.mv.length : Int) <= s.m) (hm2 : s.m <= 1000) (hs : nbS b) (hn : nbN b) {q : K3} {A : List K3} (hq : stopQ q) (hat : At ts s.i (lvK b ++ (mvsK b.mv ++ q :: A))) (hl : h.l = false) (hlv : n.lv = []) :
  ∃ r1 r2, clausesS ts f n h s = ({ n with lv := r1, mv := n.mv ++ r2 }, mvS s ((lvK b).length + (mvsK b.mv).length) (b.lv.length + acSum b.mv) b.mv.length 0) /\ Row2 (AcE false) b.lv r1 /\ Row2 (MvE false) b.mv r2 := by
 obtain ⟨nk, nn, ni, nd, ne, nl, nm, na⟩ := n
 dsimp only at hlv
 subst hlv
 unfold lvK at hat hf ⊢
 by_cases he : b.lv = []
 · rw [if_pos he] at hat hf ⊢
   rw [List.length_nil] at hf
   obtain ⟨r, e1, e2⟩ := mvs_r hE b.mv f _ h h0 (by omega) (by omega) hb hm1 hm2 hs.mv hn.mv hq hat
   refine ⟨[], r, ?_, by rw [he]; exact row0, e2⟩
   rw [e1, he]
   simp only [List.length_nil, Nat.zero_add]
 · rw [if_neg he] at hat hf ⊢
   simp only [List.length_cons] at hf
   obtain ⟨f, rfl⟩ : ∃ g, f = g + 1 := ⟨f - 1, by omega⟩
   obtain ⟨r1, e1, e2⟩ := cl_lv hE h0 _ hl (by omega) hb hs.lv hn.lv hat
   rw [cls_step hE h0 e1]
   obtain ⟨r2, e3, e4⟩ := mvs_r hE b.mv f _ _ (s := mvS s ((blK b.lv).length + 1) b.lv.length 0 0) h0 (by omega) (by unfold mvS; dsimp only; omega) (by unfold mvS; dsimp only; omega) (by unfold mvS; dsimp only; omega) (by unfold mvS; dsimp only; omega) hs.mv hn.mv hq (by
    have h5 := hat.tail.right
    have e : s.i + 1 + (blK b.lv).length = (mvS s ((blK b.lv).length + 1) b.lv.length 0 0).i := by unfold mvS; dsimp only; omega
    rw [<- e]
    exact h5)
   refine ⟨r1, r2, ?_, e2, e4⟩
   rw [e3, mvS_mvS, List.length_cons]
   congr 2
   omega
theorem ens_r {f : Nat} {n : Nb} {h : Had} {s : Sx} {b : Nb} (h0 : s.fc = 0) (hf : (enK b).length + ((lvK b).length + b.mv.length) < f) (ha : (b.en.length + (b.lv.length + acSum b.mv) : Nat) <= s.a) (hb : s.a <= 1000) (hm1 : (b.mv.length : Int) <= s.m) (hm2 : s.m <= 1000) (hs : nbS b) (hn : nbN b) {q : K3} {A : List K3} (hq : stopQ q) (hat : At ts s.i (enK b ++ (lvK b ++ (mvsK b.mv ++ q :: A)))) (he0 : h.e = false) (hl : h.l = false) (hen : n.en = []) (hlv : n.lv = []) :
  ∃ r0 r1 r2, clausesS ts f n h s = ({ n with en := r0, lv := r1, mv := n.mv ++ r2 }, mvS s ((enK b).length + ((lvK b).length + (mvsK b.mv).length)) (b.en.length + (b.lv.length + acSum b.mv)) b.mv.length 0) /\ Row2 (AcE false) b.en r0 /\ Row2 (AcE false) b.lv r1 /\ Row2 (MvE false) b.mv r2 := by
 obtain ⟨nk, nn, ni, nd, ne, nl, nm, na⟩ := n
 dsimp only at hlv hen
 subst hlv hen
 unfold enK at hat hf ⊢
 by_cases he : b.en = []
 · rw [if_pos he] at hat hf ⊢
   rw [List.length_nil] at hf
   obtain ⟨r1, r2, e1, e2, e3⟩ := lvs_r hE (f := f) (h := h) (n := ⟨nk, nn, ni, nd, [], [], nm, na⟩) h0 (by omega) (by omega) hb hm1 hm2 hs hn hq hat hl rfl
   refine ⟨[], r1, r2, ?_, by rw [he]; exact row0, e2, e3⟩
   rw [e1, he]
   simp only [List.length_nil, Nat.zero_add]
 · rw [if_neg he] at hat hf ⊢
   simp only [List.length_cons] at hf
   obtain ⟨f, rfl⟩ : ∃ g, f = g + 1 := ⟨f - 1, by omega⟩
   obtain ⟨r0, e1, e2⟩ := cl_en hE h0 _ he0 (by omega) hb hs.en hn.en hat
   rw [cls_step hE h0 e1]
   obtain ⟨r1, r2, e3, e4, e5⟩ := lvs_r hE (n := ⟨nk, nn, ni, nd, r0, [], nm, na⟩) (h := { h with e := true }) (s := mvS s ((blK b.en).length + 1) b.en.length 0 0) h0 (f := f) (by omega) (by unfold mvS; dsimp only; omega) (by unfold mvS; dsimp only; omega) (by unfold mvS; dsimp only; omega) (by unfold mvS; dsimp only; omega) hs hn hq (by
    have h5 := hat.tail.right
    have e : s.i + 1 + (blK b.en).length = (mvS s ((blK b.en).length + 1) b.en.length 0 0).i := by unfold mvS; dsimp only; omega
    rw [<- e]
    exact h5) hl rfl
   refine ⟨r0, r1, r2, ?_, e2, e4, e5⟩
   rw [e3, mvS_mvS, List.length_cons]
   congr 2 <;> omega
theorem nb_r {f : Nat} {n : Nb} {s : Sx} {b : Nb} (h0 : s.fc = 0) (hf : (iniK b).length + ((enK b).length + ((lvK b).length + b.mv.length)) < f) (ha : (nbA b : Int) <= s.a) (hb : s.a <= 1000) (hm1 : (b.mv.length : Int) <= s.m) (hm2 : s.m <= 1000) (hs : nbS b) (hn : nbN b) {q : K3} {A : List K3} (hq : stopQ q) (hat : At ts s.i (nbK b ++ q :: A)) (hini : n.ini = []) (hen : n.en = []) (hlv : n.lv = []) (hmv : n.mv = []) :
  ∃ r0 r1 r2, clausesS ts f n ⟨false, false, false⟩ s = ({ n with ini := b.ini, en := r0, lv := r1, mv := r2 }, mvS s (nbK b).length (nbA b) b.mv.length 0) /\ Row2 (AcE false) b.en r0 /\ Row2 (AcE false) b.lv r1 /\ Row2 (MvE false) b.mv r2 := by
 rw [nbA_eq] at ha ⊢
 obtain ⟨nk, nn, ni, nd, ne, nl, nm, na⟩ := n
 dsimp only at hini hlv hen hmv
 subst hini hlv hen hmv
 unfold nbK at hat ⊢
 have hat : At ts s.i (iniK b ++ (enK b ++ (lvK b ++ (mvsK b.mv ++ q :: A)))) := by simpa [List.append_assoc] using hat
 simp only [List.length_append]
 unfold iniK at hat hf ⊢
 by_cases he : b.ini = []
 · rw [if_pos he] at hat hf ⊢
   rw [List.length_nil] at hf
   obtain ⟨r0, r1, r2, e1, e2⟩ := ens_r hE (f := f) (n := ⟨nk, nn, [], nd, [], [], [], na⟩) (h := ⟨false, false, false⟩) h0 (by omega) ha hb hm1 hm2 hs hn hq hat rfl rfl rfl rfl
   refine ⟨r0, r1, r2, ?_, e2⟩
   rw [e1, he]
   simp only [List.length_nil, Nat.zero_add, List.nil_append]
 · rw [if_neg he] at hat hf ⊢
   simp only [List.length_cons] at hf
   obtain ⟨f, rfl⟩ : ∃ g, f = g + 1 := ⟨f - 1, by omega⟩
   have e1 := cl_ini hE h0 ⟨nk, nn, [], nd, [], [], [], na⟩ (h := ⟨false, false, false⟩) rfl hat
   rw [cls_step hE h0 e1]
   obtain ⟨r0, r1, r2, e3, e4⟩ := ens_r hE (n := ⟨nk, nn, b.ini, nd, [], [], [], na⟩) (h := ⟨true, false, false⟩) (s := mvS s 3 0 0 0) h0 (f := f) (by omega) (by unfold mvS; dsimp only; omega) (by unfold mvS; dsimp only; omega) (by unfold mvS; dsimp only; omega) (by unfold mvS; dsimp only; omega) hs hn hq hat.tail.tail.tail rfl rfl rfl rfl
   refine ⟨r0, r1, r2, ?_, e4⟩
   rw [e3, mvS_mvS]
   simp only [List.length_cons, List.length_nil, List.nil_append]
   congr 2 <;> omega
theorem named_at {s : Sx} (h0 : s.fc = 0) (k : Int) {nm : List UInt8} {A : List K3} (hat : At ts s.i ((1, nm, 0) :: A)) (hn1 : 1 <= s.n) (hn2 : s.n <= 1000) (hd : s.d ≠ 0) : ∃ a, namedS ts k s = ({ nb0 with k := k, nm := nm, a := a }, mvS s 1 0 0 1) := by
 have hu : useN ts s = mvS s 0 0 0 1 := by
  unfold useN mvS
  rw [if_neg (by omega), dec_sub hn1 hn2]
  simp
 have hr : roomS ts s = mvS s 0 0 0 1 := by
  unfold roomS
  rw [if_pos hat.head.1, hu, if_neg (show ¬ (mvS s 0 0 0 1).d = 0 from hd)]
 obtain ⟨c1, c2, c3⟩ := kind_at (s := mvS s 0 0 0 1) (k := 1) h0 (q := (1, nm, 0)) (A := A) hat rfl
 refine ⟨(kindS ts (mvS s 0 0 0 1) 1).1.a, ?_⟩
 unfold namedS
 rw [hr, c1, c3, mvS_mvS]
theorem kw_inj {k : Int} (h1 : 1 <= k) (h2 : k <= 4) : whK (2, kW k, 0) wKinds = k.toNat := by
 have : k = 1 ∨ k = 2 ∨ k = 3 ∨ k = 4 := by omega
 rcases this with rfl | rfl | rfl | rfl <;> decide
theorem nd_kind {d : Nat} {b : Nb} {l : List Nd} (h : ndOk d (.mk b l) = true) : 1 <= b.k /\ b.k <= 4 := by
 rw [ndOk] at h
 simp only [Bool.and_eq_true] at h
 cases hh : hist b.k with
 | true =>
  have := of_decide_eq_true hh
  omega
 | false =>
  have := (nb_s h.1.2 hh).1
  omega
theorem ndK_head (x : Nd) : ∃ B, ndK x = (2, kW x.b.k, 0) :: B := by
 obtain ⟨b, l⟩ := x
 rw [ndK]
 split
 · exact ⟨_, rfl⟩
 · exact ⟨_, rfl⟩
abbrev NodeR (ts : List Tk) (f : Nat) : Prop := ∀ (x : Nd) (deep : Nat) {s : Sx} {A : List K3}, ndOk deep x = true -> ndN x -> s.fc = 0 -> s.d = 12 - (deep : Int) -> 13 <= deep + f -> (nNd x : Int) <= s.n -> s.n <= 1000 -> (nAc x : Int) <= s.a -> s.a <= 1000 -> (nMv x : Int) <= s.m -> s.m <= 1000 -> At ts s.i ((ndK x).tail ++ A) ->
 ∃ r, nodeS ts f x.b.k s = (r, mvS s ((ndK x).length - 1) (nAc x) (nMv x) (nNd x)) /\ NdS2 x r
theorem kids_r {N : Nat} (hN : NodeR ts N) : ∀ (l : List Nd) (f : Nat) (acc : List Nd) (deep : Nat) {s : Sx}, ndsOk deep l = true -> ndsN l -> s.fc = 0 -> s.d = 12 - (deep : Int) -> 13 <= deep + N -> l.length < f -> (nNds l : Int) <= s.n -> s.n <= 1000 -> (nAcs l : Int) <= s.a -> s.a <= 1000 -> (nMvs l : Int) <= s.m -> s.m <= 1000 -> ∀ {A : List K3}, At ts s.i (ndsK l ++ kS1 125 :: A) ->
  ∃ r, kidsS ts (nodeS ts N) f acc s = (acc ++ r, mvS s (ndsK l).length (nAcs l) (nMvs l) (nNds l)) /\ Row2 NdS2 l r
 | [], f, acc, deep, s, h, hn, h0, hd, hdf, hf, n1, n2, a1, a2, m1, m2, A, hat => by
  obtain ⟨f, rfl⟩ : ∃ g, f = g + 1 := ⟨f - 1, by rw [List.length_nil] at hf; omega⟩
  rw [ndsK] at hat ⊢
  have hat : At ts s.i (kS1 125 :: A) := hat
  rw [kidsS, which_at h0 hat, if_pos (by decide), nAcs, nMvs, nNds]
  exact ⟨[], by rw [List.append_nil, List.length_nil, mvS0], row0⟩
 | x :: l, f, acc, deep, s, h, hn, h0, hd, hdf, hf, n1, n2, a1, a2, m1, m2, A, hat => by
  rw [List.length_cons] at hf
  obtain ⟨f, rfl⟩ : ∃ g, f = g + 1 := ⟨f - 1, by omega⟩
  rw [ndsOk, Bool.and_eq_true] at h
  rw [ndsN] at hn
  rw [nNds] at n1 ⊢
  rw [nAcs] at a1 ⊢
  rw [nMvs] at m1 ⊢
  rw [ndsK] at hat ⊢
  rw [List.append_assoc] at hat
  obtain ⟨B, hB⟩ := ndK_head (ts := ts) hE x
  have hk := nd_kind (ts := ts) hE (d := deep) (b := x.b) (l := x.kids) (by obtain ⟨b, k⟩ := x; exact h.1)
  have hw : whichS ts s wKinds = x.b.k.toNat := by
   have hat2 := hat
   rw [hB] at hat2
   rw [which_at h0 hat2]
   exact kw_inj (ts := ts) hE hk.1 hk.2
  have hkn : (x.b.k.toNat : Int) = x.b.k := Int.toNat_of_nonneg (by omega)
  have h1 : At ts (mvS s 1 0 0 0).i ((ndK x).tail ++ (ndsK l ++ kS1 125 :: A)) := by
   have hat2 := hat
   rw [hB] at hat2 ⊢
   exact hat2.tail
  have hlen : 1 <= (ndK x).length := by rw [hB, List.length_cons]; omega
  obtain ⟨r, e1, e2⟩ := hN x deep (s := mvS s 1 0 0 0) h.1 hn.1 h0 hd hdf (by unfold mvS; dsimp only; omega) (by unfold mvS; dsimp only; omega) (by unfold mvS; dsimp only; omega) (by unfold mvS; dsimp only; omega) (by unfold mvS; dsimp only; omega) (by unfold mvS; dsimp only; omega) h1
  rw [kidsS, hw, if_neg (by omega), hkn, next_mv, e1]
  dsimp only
  rw [mvS_mvS]
  obtain ⟨r2, e3, e4⟩ := kids_r hN l f (acc ++ [r]) deep (s := mvS s (1 + ((ndK x).length - 1)) (0 + nAc x) (0 + nMv x) (0 + nNd x)) h.2 hn.2 h0 hd hdf (by omega) (by unfold mvS; dsimp only; omega) (by unfold mvS; dsimp only; omega) (by unfold mvS; dsimp only; omega) (by unfold mvS; dsimp only; omega) (by unfold mvS; dsimp only; omega) (by unfold mvS; dsimp only; omega) (by
   have h5 := hat.right
   have e : s.i + (ndK x).length = (mvS s (1 + ((ndK x).length - 1)) (0 + nAc x) (0 + nMv x) (0 + nNd x)).i := by unfold mvS; dsimp only; omega
   rw [<- e]
   exact h5)
  refine ⟨r :: r2, ?_, row1 e2 e4⟩
  rw [e3, mvS_mvS, List.append_assoc, List.length_append]
  simp only [List.singleton_append]
  congr 2 <;> omega
theorem ndsK_len : ∀ l : List Nd, l.length <= (ndsK l).length
 | [] => Nat.zero_le _
 | x :: l => by
  have := ndsK_len l
  obtain ⟨B, hB⟩ := ndK_head (ts := ts) hE x
  rw [ndsK, hB, List.length_append, List.length_cons, List.length_cons]
  omega
theorem nds_stop (l : List Nd) (h : ∀ x, x ∈ l -> 1 <= x.b.k /\ x.b.k <= 4) (A : List K3) : ∃ q B, ndsK l ++ kS1 125 :: A = q :: B /\ stopQ q := by
 cases l with
 | nil =>
  rw [ndsK]
  exact ⟨_, _, rfl, by unfold stopQ; decide⟩
 | cons x l =>
  obtain ⟨B, hB⟩ := ndK_head (ts := ts) hE x
  rw [ndsK, hB]
  refine ⟨_, _, rfl, ?_⟩
  obtain ⟨h1, h2⟩ := h x (by simp)
  have : x.b.k = 1 ∨ x.b.k = 2 ∨ x.b.k = 3 ∨ x.b.k = 4 := by omega
  unfold stopQ
  rcases this with e | e | e | e <;> rw [e] <;> decide
theorem nds_kind {d : Nat} : ∀ {l : List Nd}, ndsOk d l = true -> ∀ x, x ∈ l -> 1 <= x.b.k /\ x.b.k <= 4
 | [], _, x, hx => by simp at hx
 | y :: l, h, x, hx => by
  rw [ndsOk, Bool.and_eq_true] at h
  rcases List.mem_cons.1 hx with rfl | hx
  · obtain ⟨b, k⟩ := x
    exact nd_kind (ts := ts) hE h.1
  · exact nds_kind h.2 x hx
theorem body_r {N : Nat} (hN : NodeR ts N) {b : Nb} {l : List Nd} {deep : Nat} {s : Sx} {n : Nb} (hl : ndsOk (deep + 1) l = true) (hnl : ndsN l) (hs : nbS b) (hn : nbN b) (h0 : s.fc = 0) (hd : s.d = 12 - (deep : Int)) (hdp : deep < 12) (hdf : 13 <= deep + 1 + N)
  (n1 : (nNds l : Int) <= s.n) (n2 : s.n <= 1000) (a1 : (nbA b + nAcs l : Nat) <= s.a) (a2 : s.a <= 1000) (m1 : (b.mv.length + nMvs l : Nat) <= s.m) (m2 : s.m <= 1000) {A : List K3} (hat : At ts s.i ((nbK b ++ (ndsK l ++ [kS1 125])) ++ A)) (hini : n.ini = []) (hen : n.en = []) (hlv : n.lv = []) (hmv : n.mv = []) :
  ∃ r0 r1 r2 r, bodyS ts (nodeS ts N) n s = (.mk { n with ini := b.ini, en := r0, lv := r1, mv := r2 } r, mvS s (nbK b ++ (ndsK l ++ [kS1 125])).length (nbA b + nAcs l) (b.mv.length + nMvs l) (nNds l)) /\ Row2 (AcE false) b.en r0 /\ Row2 (AcE false) b.lv r1 /\ Row2 (MvE false) b.mv r2 /\ Row2 NdS2 l r := by
 have hat : At ts s.i (nbK b ++ (ndsK l ++ kS1 125 :: A)) := by simpa [List.append_assoc] using hat
 obtain ⟨q, B, hq1, hq2⟩ := nds_stop hE l (nds_kind hE hl) A
 have hin := At.inr hE (s := s) (L := nbK b ++ ndsK l) (q := kS1 125) (A := A) (by simpa [List.append_assoc] using hat) (by decide)
 rw [List.length_append] at hin
 have hml := mvsK_len (ts := ts) hE b.mv
 have hkl := ndsK_len (ts := ts) hE l
 have hnbl : (iniK b).length + ((enK b).length + ((lvK b).length + (mvsK b.mv).length)) = (nbK b).length := by unfold nbK; simp only [List.length_append]
 have hd1 : dec s.d = s.d - 1 := dec_sub (by omega) (by omega)
 have hi1 : inc (s.d - 1) = s.d := by
  unfold inc
  rw [wr' (by omega) (by omega)]
  omega
 have hat1 := hat
 rw [hq1] at hat1
 obtain ⟨r0, r1, r2, e1, e2, e3, e4⟩ := nb_r hE (f := ts.length + 1) (n := n) (s := { s with d := s.d - 1 }) h0 (by omega) (by dsimp only; omega) a2 (by dsimp only; omega) m2 hs hn hq2 hat1 hini hen hlv hmv
 obtain ⟨r, e5, e6⟩ := kids_r hE hN l (ts.length + 1) [] (deep + 1) (s := mvS { s with d := s.d - 1 } (nbK b).length (nbA b) b.mv.length 0) hl hnl h0 (by unfold mvS; dsimp only; omega) hdf (by omega) (by unfold mvS; dsimp only; omega) (by unfold mvS; dsimp only; omega) (by unfold mvS; dsimp only; omega) (by unfold mvS; dsimp only; omega) (by unfold mvS; dsimp only; omega) (by unfold mvS; dsimp only; omega) hat.right
 refine ⟨r0, r1, r2, r, ?_, e2, e3, e4, e6⟩
 unfold bodyS
 dsimp only
 rw [hd1, e1]
 dsimp only
 rw [e5]
 dsimp only
 have e7 : ({ mvS (mvS { s with d := s.d - 1 } (nbK b).length (nbA b) b.mv.length 0) (ndsK l).length (nAcs l) (nMvs l) (nNds l) with d := inc (mvS (mvS { s with d := s.d - 1 } (nbK b).length (nbA b) b.mv.length 0) (ndsK l).length (nAcs l) (nMvs l) (nNds l)).d } : Sx) = mvS s ((nbK b).length + (ndsK l).length) (nbA b + nAcs l) (b.mv.length + nMvs l) (0 + nNds l) := by
  rw [mvS_mvS]
  unfold mvS
  dsimp only
  rw [hi1]
 rw [e7, must_at (s := mvS s ((nbK b).length + (ndsK l).length) (nbA b + nAcs l) (b.mv.length + nMvs l) (0 + nNds l)) h0 (q := kS1 125) (A := A) (by
  have h5 := hat.right.right
  rw [Nat.add_assoc] at h5
  exact h5) (by decide), mvS_mvS, List.nil_append]
 simp only [List.length_append, List.length_cons, List.length_nil]
 congr 2 <;> omega
theorem node_r : ∀ f, NodeR ts f
 | 0 => by
  intro x deep s A h hn h0 hd hdf
  obtain ⟨b, l⟩ := x
  rw [ndOk] at h
  simp only [Bool.and_eq_true] at h
  have := of_decide_eq_true h.1.1
  omega
 | f + 1 => by
  intro x deep s A h hn h0 hd hdf n1 n2 a1 a2 m1 m2 hat
  obtain ⟨b, l⟩ := x
  have hk := nd_kind (ts := ts) hE h
  rw [ndOk] at h
  rw [ndN] at hn
  rw [nNd] at n1 ⊢
  rw [nAc] at a1 ⊢
  rw [nMv] at m1 ⊢
  simp only [Bool.and_eq_true] at h
  obtain ⟨⟨h1, h2⟩, h3⟩ := h
  have h1 := of_decide_eq_true h1
  show ∃ r, nodeS ts (f + 1) b.k s = _ /\ _
  rw [ndK] at hat ⊢
  rw [nodeS]
  cases hh : hist b.k with
  | true =>
   obtain ⟨g1, g2, g3, g4, g5, g6, g7⟩ := nb_h h2 hh
   have h34 := of_decide_eq_true hh
   have hl : l = [] := List.eq_nil_of_length_eq_zero g7
   subst hl
   rw [hh, if_pos rfl] at hat
   have hat : At ts s.i ((1, b.nm, 0) :: kTo :: (1, b.dft, 0) :: kS1 59 :: A) := hat
   obtain ⟨a, e1⟩ := named_at hE h0 b.k hat (by omega) n2 (by omega)
   rw [if_pos (by omega), if_pos rfl, e1]
   dsimp only
   rw [must_at (s := mvS s 1 0 0 1) h0 hat.tail (by decide), mvS_mvS, name_at (s := mvS s (1 + 1) (0 + 0) (0 + 0) (1 + 0)) h0 hat.tail.tail]
   dsimp only
   rw [must_at (s := mvS (mvS s (1 + 1) (0 + 0) (0 + 0) (1 + 0)) 1 0 0 0) h0 hat.tail.tail.tail (by decide), mvS_mvS, mvS_mvS]
   refine ⟨_, ?_, nds_mk2 (b' := { nb0 with k := b.k, nm := b.nm, a := a, dft := b.dft }) ⟨rfl, rfl, g3, rfl, by rw [g4]; exact row0, by rw [g5]; exact row0, by rw [g6]; exact row0, nofF⟩ row0⟩
   congr 1
   rw [nAcs, nMvs, nNds]
   have : nbA b = 0 := by unfold nbA; rw [g4, g5, g6]; rfl
   rw [this, g6]
   rfl
  | false =>
   obtain ⟨g1, g2, hs⟩ := nb_s h2 hh
   rw [hh, if_neg (by decide)] at hat
   have hat : At ts s.i ((1, b.nm, 0) :: kS1 123 :: ((nbK b ++ (ndsK l ++ [kS1 125])) ++ A)) := hat
   obtain ⟨a, e1⟩ := named_at hE h0 b.k hat (by omega) n2 (by omega)
   rw [if_neg (by omega), if_neg (by decide), e1]
   dsimp only
   rw [must_at (s := mvS s 1 0 0 1) h0 hat.tail (by decide), mvS_mvS]
   obtain ⟨r0, r1, r2, r, e2, e3, e4, e5, e6⟩ := body_r hE (node_r f) (deep := deep) (s := mvS s (1 + 1) (0 + 0) (0 + 0) (1 + 0)) (n := { nb0 with k := b.k, nm := b.nm, a := a }) h3 hn.2 hs hn.1 h0 hd h1 (by omega) (by unfold mvS; dsimp only; omega) (by unfold mvS; dsimp only; omega) (by unfold mvS; dsimp only; omega) (by unfold mvS; dsimp only; omega) (by unfold mvS; dsimp only; omega) (by unfold mvS; dsimp only; omega) hat.tail.tail rfl rfl rfl rfl
   rw [e2, mvS_mvS]
   refine ⟨_, ?_, nds_mk2 (b' := { nb0 with k := b.k, nm := b.nm, a := a, ini := b.ini, en := r0, lv := r1, mv := r2 }) ⟨rfl, rfl, rfl, g2, e3, e4, e5, nofF⟩ e6⟩
   congr 2 <;> (try simp only [List.length_cons]) <;> omega
theorem num_r {s : Sx} (h0 : s.fc = 0) {v : Int} (hv : InI v) (hm : v ≠ -9223372036854775808) {q : K3} {A : List K3} (hat : At ts s.i (numK v ++ q :: A)) :
  ∃ g : Nat, whichS ts s [[45]] = g /\ (if g = 0 then (kindS ts (if g = 0 then s else nextS s) 3).1.n else IntKind.wrap .i64 (-(kindS ts (if g = 0 then s else nextS s) 3).1.n)) = v /\ (kindS ts (if g = 0 then s else nextS s) 3).2 = mvS s (numK v).length 0 0 0 := by
 obtain ⟨h1, h2⟩ := hv
 unfold numK at hat ⊢
 by_cases hn : v < 0
 · rw [if_pos hn] at hat ⊢
   have hat : At ts s.i (kS1 45 :: (3, [], -v) :: q :: A) := hat
   obtain ⟨c1, c2, c3⟩ := kind_at (s := mvS s 1 0 0 0) (k := 3) h0 hat.tail rfl
   refine ⟨1, by rw [which_at h0 hat]; decide, ?_, ?_⟩
   · rw [if_neg (by decide), if_neg (by decide), next_mv, c2]
     dsimp only
     rw [Int.neg_neg, wr' h1 h2]
   · rw [if_neg (by decide), next_mv, c3, mvS_mvS]
     rfl
 · rw [if_neg hn] at hat ⊢
   have hat : At ts s.i ((3, [], v) :: q :: A) := hat
   obtain ⟨c1, c2, c3⟩ := kind_at (s := s) (k := 3) h0 hat rfl
   exact ⟨0, by rw [which_at h0 hat]; rfl, by rw [if_pos rfl, if_pos rfl, c2], by rw [if_pos rfl, c3]; rfl⟩
theorem var_r {s : Sx} (h0 : s.fc = 0) (v1 : 1 <= s.v) (v2 : s.v <= 1000) {v : Vr} (hv : InI v.v) (hm : v.v ≠ -9223372036854775808) {A : List K3} (hat : At ts s.i ((vrK v).tail ++ A)) :
  ∃ r, varS ts s = (r, mvS { s with v := s.v - 1 } (vrK v).tail.length 0 0 0) /\ VrE false v r := by
 have hat : At ts s.i ((1, v.n, 0) :: kS1 61 :: ((numK v.v ++ [kS1 59]) ++ A)) := hat
 have hu : useV ts s = { s with v := s.v - 1 } := by
  unfold useV
  rw [if_neg (by omega), dec_sub v1 v2]
 unfold varS
 dsimp only
 rw [if_pos hat.head.1, hu]
 generalize hs1 : ({ s with v := s.v - 1 } : Sx) = s1
 have e0 : s1.fc = 0 := by rw [<- hs1]; exact h0
 have hat : At ts s1.i ((1, v.n, 0) :: kS1 61 :: ((numK v.v ++ [kS1 59]) ++ A)) := by rw [<- hs1]; exact hat
 obtain ⟨c1, c2, c3⟩ := kind_at (s := s1) (k := 1) e0 hat rfl
 rw [c1, c3, must_at (s := mvS s1 1 0 0 0) e0 hat.tail (by decide), mvS_mvS]
 have h2 : At ts (mvS s1 (1 + 1) (0 + 0) (0 + 0) (0 + 0)).i (numK v.v ++ kS1 59 :: A) := by
  have := hat.tail.tail
  rw [List.append_assoc] at this
  exact this
 obtain ⟨g, g1, g2, g3⟩ := num_r hE (s := mvS s1 (1 + 1) (0 + 0) (0 + 0) (0 + 0)) e0 hv hm h2
 rw [g1, g2, g3, mvS_mvS, must_at (s := mvS s1 (1 + 1 + (numK v.v).length) (0 + 0 + 0) (0 + 0 + 0) (0 + 0 + 0)) e0 (q := kS1 59) (A := A) (by
  have h5 := h2.right
  have e : (mvS s1 (1 + 1) (0 + 0) (0 + 0) (0 + 0)).i + (numK v.v).length = (mvS s1 (1 + 1 + (numK v.v).length) (0 + 0 + 0) (0 + 0 + 0) (0 + 0 + 0)).i := by unfold mvS; dsimp only; omega
  rw [<- e]
  exact h5) (by decide), mvS_mvS]
 refine ⟨⟨v.n, v.v, (kindS ts s1 1).1.a⟩, ?_, ⟨rfl, rfl, nofF⟩⟩
 unfold vrK
 simp only [List.tail_cons, List.length_cons, List.length_append, List.length_nil]
 congr 2
 omega
theorem vars_r : ∀ (l : List Vr) (f : Nat) (acc : List Vr) {s : Sx}, s.fc = 0 -> l.length < f -> (l.length : Int) <= s.v -> s.v <= 1000 -> (∀ v, v ∈ l -> InI v.v /\ v.v ≠ -9223372036854775808) -> ∀ {q : K3} {A : List K3}, whK q [wVar] = 0 -> At ts s.i (vrsK l ++ q :: A) ->
  ∃ r, varsS ts f acc s = (acc ++ r, mvS { s with v := s.v - l.length } (vrsK l).length 0 0 0) /\ Row2 (VrE false) l r
 | [], f, acc, s, h0, hf, v1, v2, hv, q, A, hq, hat => by
  obtain ⟨f, rfl⟩ : ∃ g, f = g + 1 := ⟨f - 1, by rw [List.length_nil] at hf; omega⟩
  have hat : At ts s.i (q :: A) := hat
  rw [varsS, which_at h0 hat, if_pos hq]
  refine ⟨[], ?_, row0⟩
  rw [List.append_nil]
  unfold mvS vrsK
  simp
 | v :: l, f, acc, s, h0, hf, v1, v2, hv, q, A, hq, hat => by
  rw [List.length_cons] at hf v1
  obtain ⟨f, rfl⟩ : ∃ g, f = g + 1 := ⟨f - 1, by omega⟩
  have hat : At ts s.i ((vrK v ++ vrsK l) ++ q :: A) := hat
  rw [List.append_assoc] at hat
  have hat1 : At ts s.i ((2, wVar, 0) :: ((vrK v).tail ++ (vrsK l ++ q :: A))) := hat
  obtain ⟨r, e1, e2⟩ := var_r hE (s := mvS s 1 0 0 0) h0 (by unfold mvS; dsimp only; omega) (by unfold mvS; dsimp only; omega) (hv v (by simp)).1 (hv v (by simp)).2 hat1.tail
  rw [varsS, which_at h0 hat1, if_neg (by decide), next_mv, e1]
  dsimp only
  have e3 : mvS { mvS s 1 0 0 0 with v := (mvS s 1 0 0 0).v - 1 } (vrK v).tail.length 0 0 0 = mvS { s with v := s.v - 1 } (vrK v).length 0 0 0 := by
   unfold mvS vrK
   simp only [List.tail_cons, List.length_cons, Sx.mk.injEq, true_and]
   refine ⟨by omega, ?_, ?_, ?_⟩ <;> omega
  rw [e3]
  obtain ⟨r2, e4, e5⟩ := vars_r l f (acc ++ [r]) (s := mvS { s with v := s.v - 1 } (vrK v).length 0 0 0) h0 (by omega) (by unfold mvS; dsimp only; omega) (by unfold mvS; dsimp only; omega) (fun x hx => hv x (by simp [hx])) hq hat.right
  refine ⟨r :: r2, ?_, row1 e2 e5⟩
  rw [e4, List.append_assoc, List.length_cons]
  simp only [List.singleton_append]
  congr 1
  unfold mvS
  simp only [vrsK, List.length_append, Sx.mk.injEq, true_and]
  refine ⟨by omega, by omega, ?_, ?_, ?_⟩ <;> omega
theorem vrsK_len : ∀ l : List Vr, l.length <= (vrsK l).length
 | [] => Nat.le_refl _
 | v :: l => by
  have := vrsK_len l
  rw [vrsK, List.length_append, List.length_cons]
  unfold vrK
  rw [List.length_cons]
  omega
theorem chart_r {c : Ch} (h : chOk c = true) (hn : chN c) (hat : At ts 0 (chK c ++ [(5, [], 0)])) : (chartS ts).2.fc = 0 /\ ∀ d, ChE false d c (chartS ts).1 := by
 unfold chOk at h
 simp only [Bool.and_eq_true] at h
 obtain ⟨⟨h1, h2⟩, h3⟩ := h
 replace h3 := of_decide_eq_true h3
 obtain ⟨vars, ⟨b, l⟩⟩ := c
 have hv := hn.v
 have hr := hn.r
 rw [ndN] at hr
 rw [ndOk] at h2
 simp only [Bool.and_eq_true] at h2
 obtain ⟨⟨_, h4⟩, h5⟩ := h2
 dsimp only at h1 h3 hv
 obtain ⟨q1, q2, q3, q4, q5⟩ := h3
 have hk : b.k = 1 := q1
 rw [nNd] at q3
 rw [nMv] at q4
 rw [nAc] at q5
 have hh : hist b.k = false := by rw [hk]; rfl
 obtain ⟨_, g2, hs⟩ := nb_s h4 hh
 have hvs : ∀ v, v ∈ vars -> InI v.v /\ v.v ≠ -9223372036854775808 := fun v hx => by
  have := (List.all_eq_true.1 h1) v hx
  simp only [Bool.and_eq_true, decide_eq_true_eq] at this
  exact ⟨hv v hx, this.2⟩
 unfold chK at hat
 have hat : At ts sx0.i ((2, wChart, 0) :: (1, b.nm, 0) :: kS1 123 :: (vrsK vars ++ ((nbK b ++ (ndsK l ++ [kS1 125])) ++ [(5, [], 0)]))) := by
  have e : (2, wChart, 0) :: (1, b.nm, 0) :: kS1 123 :: (vrsK vars ++ ((nbK b ++ (ndsK l ++ [kS1 125])) ++ [(5, [], 0)])) = (2, wChart, 0) :: (1, b.nm, 0) :: kS1 123 :: (vrsK vars ++ (nbK b ++ (ndsK l ++ [kS1 125]))) ++ [(5, [], 0)] := by simp [List.append_assoc]
  rw [e]
  exact hat
 have z0 : sx0.fc = 0 := rfl
 unfold chartS
 dsimp only
 rw [must_at (s := sx0) z0 hat (by decide)]
 obtain ⟨a, e1⟩ := named_at hE (s := mvS sx0 1 0 0 0) z0 1 hat.tail (by decide) (by decide) (by decide)
 rw [e1]
 dsimp only
 rw [must_at (s := mvS (mvS sx0 1 0 0 0) 1 0 0 1) z0 hat.tail.tail (by decide), mvS_mvS, mvS_mvS]
 have hat3 : At ts (mvS sx0 (1 + 1 + 1) (0 + 0 + 0) (0 + 0 + 0) (0 + 1 + 0)).i (vrsK vars ++ ((nbK b ++ (ndsK l ++ [kS1 125])) ++ [(5, [], 0)])) := hat.tail.tail.tail
 obtain ⟨q, B, hq, hqv⟩ : ∃ q B, (nbK b ++ (ndsK l ++ [kS1 125])) ++ [((5, [], 0) : K3)] = q :: B /\ whK q [wVar] = 0 /\ q.1 ≠ 5 := by
  obtain ⟨q, B, j1, j2⟩ := nds_stop hE l (nds_kind hE h5) [((5, [], 0) : K3)]
  have jv : whK q [wVar] = 0 := by
   cases l with
   | nil =>
    rw [ndsK] at j1
    have : q = kS1 125 := by injection j1 with j _; exact j.symm
    rw [this]
    decide
   | cons x l =>
    obtain ⟨C, hC⟩ := ndK_head (ts := ts) hE x
    rw [ndsK, hC] at j1
    have : q = (2, kW x.b.k, 0) := by injection j1 with j _; exact j.symm
    obtain ⟨x1, x2⟩ := nds_kind (ts := ts) hE h5 x (by simp)
    have x3 : x.b.k = 1 ∨ x.b.k = 2 ∨ x.b.k = 3 ∨ x.b.k = 4 := by omega
    rw [this]
    rcases x3 with e | e | e | e <;> rw [e] <;> decide
  have e : (nbK b ++ (ndsK l ++ [kS1 125])) ++ [((5, [], 0) : K3)] = nbK b ++ (ndsK l ++ kS1 125 :: [(5, [], 0)]) := by simp [List.append_assoc]
  rw [e, j1]
  unfold nbK iniK enK lvK
  by_cases i1 : b.ini = []
  · rw [if_pos i1]
    by_cases i2 : b.en = []
    · rw [if_pos i2]
      by_cases i3 : b.lv = []
      · rw [if_pos i3]
        cases hmv : b.mv with
        | nil => exact ⟨q, B, rfl, jv, j2.2.2⟩
        | cons m ms =>
         have : ∃ w C, mvK m = (2, w, 0) :: C /\ whK (2, w, 0) [wVar] = 0 := by
          unfold mvK hdK
          split
          · exact ⟨_, _, rfl, by decide⟩
          · split
            · exact ⟨_, _, rfl, by decide⟩
            · exact ⟨_, _, rfl, by decide⟩
         obtain ⟨w, C, u1, u2⟩ := this
         rw [mvsK, u1]
         exact ⟨_, _, rfl, u2, (by decide : (2 : Int) ≠ 5)⟩
      · rw [if_neg i3]
        exact ⟨_, _, rfl, by decide, (by decide : (2 : Int) ≠ 5)⟩
    · rw [if_neg i2]
      exact ⟨_, _, rfl, by decide, (by decide : (2 : Int) ≠ 5)⟩
  · rw [if_neg i1]
    exact ⟨_, _, rfl, by decide, (by decide : (2 : Int) ≠ 5)⟩
 have hat4 := hat3
 rw [hq] at hat4
 have hlen := vrsK_len (ts := ts) hE vars
 have hin := At.inr hE hat4 hqv.2
 obtain ⟨rv, e2, e3⟩ := vars_r hE vars (ts.length + 1) [] (s := mvS sx0 (1 + 1 + 1) (0 + 0 + 0) (0 + 0 + 0) (0 + 1 + 0)) z0 (by omega) (by unfold mvS sx0; dsimp only; omega) (by decide) hvs hqv.1 hat4
 rw [e2]
 dsimp only
 obtain ⟨r0, r1, r2, r, e4, e5, e6, e7, e8⟩ := body_r hE (node_r hE 14) (deep := 0) (s := mvS { mvS sx0 (1 + 1 + 1) (0 + 0 + 0) (0 + 0 + 0) (0 + 1 + 0) with v := (mvS sx0 (1 + 1 + 1) (0 + 0 + 0) (0 + 0 + 0) (0 + 1 + 0)).v - vars.length } (vrsK vars).length 0 0 0) (n := { nb0 with k := 1, nm := b.nm, a := a }) h5 hr.2 hs hr.1 z0 rfl (by decide) (by decide) (by unfold mvS sx0; dsimp only; omega) (by unfold mvS sx0; dsimp only; omega) (by unfold mvS sx0; dsimp only; omega) (by unfold mvS sx0; dsimp only; omega) (by unfold mvS sx0; dsimp only; omega) (by unfold mvS sx0; dsimp only; omega) hat3.right rfl rfl rfl rfl
 rw [e4]
 dsimp only
 rw [mvS_mvS]
 refine ⟨?_, fun d => ⟨by rw [List.nil_append]; exact e3, nds_mk2 (b' := { nb0 with k := 1, nm := b.nm, a := a, ini := b.ini, en := r0, lv := r1, mv := r2 }) ⟨hk, rfl, rfl, g2, e5, e6, e7, nofF⟩ e8 d⟩⟩
 unfold endS
 rw [if_neg]
 · exact z0
 · rintro ⟨_, hne⟩
   refine hne ?_
   have h6 := hat3.right.right.head.1
   rw [Nat.add_assoc] at h6
   exact h6
end
theorem lines_law {c : Ch} (h : chOk c = true) (hn : chN c) (hl : (pageT (chL c)).length <= 16384) : (parseC (pageT (chL c))).2.1 = 0 /\ ∀ d, ChE false d c (parseC (pageT (chL c))).1 := by
 have hq := lq_ch h hn
 unfold Lq at hq
 generalize pageT (chL c) = L at *
 have hend : toks L (0 + L.length) = .ok [⟨5, [], 0, ((L.length : Nat) : Int)⟩] := by
  have hd : L.drop L.length = [] := List.drop_of_length_le (Nat.le_refl _)
  have h5 : skN false [] = 0 := rfl
  rw [Nat.zero_add, toks_step (Nat.le_refl _), hd, h5, if_pos (by omega)]
  rfl
 obtain ⟨us, h1, h2⟩ := hq L 0 [] _ (Nat.zero_le _) (by rw [List.drop_zero, List.append_nil]) trivial hend
 generalize hts : us ++ [(⟨5, [], 0, ((L.length : Nat) : Int)⟩ : Tk)] = ts at *
 have t1 : tokensM L = (ts, 0, 0) := by rw [tokensM, if_neg (by omega), h1]
 have hE : EndL ts := by
  have := (tokensM_ok (l := L) (by rw [t1])).1
  rw [t1] at this
  exact this
 have hm : ts.map k3 = chK c ++ [(5, [], 0)] := by rw [<- hts, List.map_append, h2]; rfl
 have hat : At ts 0 (chK c ++ [(5, [], 0)]) := fun j q hj => by
  rw [<- hm, List.getElem?_map, Option.map_eq_some_iff] at hj
  obtain ⟨t, g1, rfl⟩ := hj
  have : tk ts (0 + j) = t := by
   unfold tk
   rw [Nat.zero_add, g1]
   rfl
  rw [this]
 obtain ⟨c1, c2⟩ := chart_r hE h hn hat
 unfold parseC
 rw [t1]
 dsimp only
 rw [if_neg (by decide), if_neg (by rw [c1]; decide)]
 exact ⟨rfl, c2⟩
end Go.Proofs.YtndkfaaeeojeiaaGreatDoor.Con
namespace Go.Proofs.YtndkfaaeeojeiaaGreatDoor.Con
open Go Go.RowKit Go.Kt Go.Kt.V Go.Proofs.YtndkfaaeeojeiaaGreatDoor.Vc
set_option linter.unusedSimpArgs false
set_option linter.unusedVariables false
set_option maxHeartbeats 4000000
def small8 : List UInt8 := [99, 104, 97, 114, 116, 32, 99, 123, 118, 97, 114, 32, 110, 61, 45, 50, 59, 115, 116, 97, 116, 101, 32, 97, 123, 111, 110, 32, 103, 111, 91, 110, 60, 48, 93, 123, 115, 101, 116, 32, 110, 61, 110, 43, 49, 59, 125, 45, 62, 98, 44, 97, 59, 101, 110, 116, 101, 114, 123, 125, 125, 100, 101, 101, 112, 32, 104, 45, 62, 97, 59, 125]
def line8 : List UInt8 := [99, 104, 97, 114, 116, 32, 99, 32, 123, 10, 32, 32, 118, 97, 114, 32, 110, 32, 61, 32, 45, 50, 59, 10, 32, 32, 115, 116, 97, 116, 101, 32, 97, 32, 123, 10, 32, 32, 32, 32, 111, 110, 32, 103, 111, 32, 91, 110, 32, 60, 32, 48, 93, 32, 123, 32, 115, 101, 116, 32, 110, 32, 61, 32, 110, 32, 43, 32, 49, 59, 32, 125, 32, 45, 62, 32, 98, 44, 32, 97, 59, 10, 32, 32, 125, 10, 32, 32, 100, 101, 101, 112, 32, 104, 32, 45, 62, 32, 97, 59, 10, 125, 10]
def inB (n : Int) : Bool := decide (-9223372036854775808 <= n /\ n <= 9223372036854775807)
theorem inB_t {n : Int} (h : inB n = true) : InI n := by
 have h := of_decide_eq_true h
 exact ⟨h.1, h.2⟩
mutual
def nXb : Ex -> Bool
 | .mk _ n _ _ l _ => inB n && nXLb l
def nXLb : List Ex -> Bool
 | [] => true
 | x :: l => nXb x && nXLb l
end
theorem nXL_mem {y : Ex} : ∀ {l : List Ex}, nXLb l = true -> y ∈ l -> nXb y = true
 | [], _, h => by simp at h
 | x :: l, h, hy => by
  rw [nXLb, Bool.and_eq_true] at h
  rcases List.mem_cons.1 hy with rfl | hy
  · exact h.1
  · exact nXL_mem h.2 hy
theorem nX_t : ∀ (d : Nat) {x : Ex}, nXb x = true -> numOk d x
 | 0, _, _ => trivial
 | d + 1, .mk k n s op l a, h => by
  rw [nXb, Bool.and_eq_true] at h
  exact ⟨inB_t h.1, fun y hy => nX_t d (nXL_mem h.2 hy)⟩
def nAb (a : Ac) : Bool := nXb a.x
def nMb (m : Mv) : Bool := nXb m.g && m.acts.all nAb && inB m.wt
def nNb (b : Nb) : Bool := b.en.all nAb && b.lv.all nAb && b.mv.all nMb
mutual
def nDb : Nd -> Bool
 | .mk b l => nNb b && nDLb l
def nDLb : List Nd -> Bool
 | [] => true
 | x :: l => nDb x && nDLb l
end
theorem nAs_t {l : List Ac} (h : l.all nAb = true) : ∀ a, a ∈ l -> acN a := fun a ha d => nX_t d ((List.all_eq_true.1 h) a ha)
theorem nM_t {m : Mv} (h : nMb m = true) : mvN m := by
 unfold nMb at h
 simp only [Bool.and_eq_true] at h
 exact ⟨fun d => nX_t d h.1.1, nAs_t h.1.2, inB_t h.2⟩
theorem nN_t {b : Nb} (h : nNb b = true) : nbN b := by
 unfold nNb at h
 simp only [Bool.and_eq_true] at h
 exact ⟨nAs_t h.1.1, nAs_t h.1.2, fun m hm => nM_t ((List.all_eq_true.1 h.2) m hm)⟩
mutual
theorem nD_t : ∀ (x : Nd), nDb x = true -> ndN x
 | .mk b l, h => by
  rw [nDb, Bool.and_eq_true] at h
  rw [ndN]
  exact ⟨nN_t h.1, nDL_t l h.2⟩
theorem nDL_t : ∀ (l : List Nd), nDLb l = true -> ndsN l
 | [], _ => by rw [ndsN]; trivial
 | x :: l, h => by
  rw [nDLb, Bool.and_eq_true] at h
  rw [ndsN]
  exact ⟨nD_t x h.1, nDL_t l h.2⟩
end
def nCb (c : Ch) : Bool := (c.vars.all fun v => inB v.v) && nDb c.root
theorem nC_t {c : Ch} (h : nCb c = true) : chN c := by
 unfold nCb at h
 simp only [Bool.and_eq_true] at h
 exact ⟨fun v hv => inB_t ((List.all_eq_true.1 h.1) v hv), nD_t _ h.2⟩
def szOk (c : Ch) : Bool := decide (szVs c.vars + szN c.root <= 8388608)
def sm8 : Bool := (decide ((parseC small8).2.1 = 0 /\ printP (parseC small8).1 = (line8, 0)) && nCb (parseC small8).1) && szOk (parseC small8).1
theorem sm8_ok : sm8 = true := by kernel_rfl
theorem ChR.off {d : Nat} {w : World} {F : Nat -> Prop} {c : Ch} {vs : Sl} {cs : List Value} (h : ChR true d w F c vs cs) : ChR false d w F c vs cs := ⟨h.vars.off fun _ _ _ h => h, rNd_off h.root⟩
theorem psmall_c (w : World) (hE : Er w) (hT : Tb w) : Calls Tryz.prog 11 #[] w fun e w' => e = .returned (.bool true) /\ Only [] w w' := by
 refine ret (v28w (fun v w' => v = (.bool true) /\ Only [] w w') w ?_)
 unfold v28v
 refine (sparse_c small8 hE).mono ?_
 rintro _ w0 ⟨vs, cs, rfl, hC, hO0⟩
 have hok := sm8_ok
 unfold sm8 at hok
 simp only [Bool.and_eq_true] at hok
 obtain ⟨⟨hok, hn⟩, hz⟩ := hok
 have hok := of_decide_eq_true hok
 have hn := nC_t hn
 have hz := of_decide_eq_true hz
 generalize parseC small8 = P at *
 obtain ⟨xe, xl, xm, xk, rfl, _⟩ := hC.root
 have z0 := hO0.size
 refine ⟨vs, _, _, _, _, xe, xl, xm, xk, _, _, _, rfl, fun k0 k1 w1 hk0 hk0' hk1 hk1' hO1 => ?_⟩
 have z1 := hO1.size
 have o1 := hO0.tr0 hO1
 have hC1 : ChR true 15 w1 (Fr w.heap.size) P.1 vs (ndv P.1.root.b.k P.1.root.b.nm P.1.root.b.ini P.1.root.b.dft xe xl xm xk P.1.root.b.a) := ⟨hC.vars.keep rVr_ok (by decide) fun k _ hlt => hO1.block k hlt (by simp), (rNd_ok true 15).keep hC.root fun k _ hlt => hO1.block k hlt (by simp)⟩
 refine (print_c hC1.off hn hz (hE.only o1) (hT.only o1)).mono ?_
 rintro _ w2 ⟨rfl, hO2⟩
 refine ⟨_, _, rfl, hO2.same (by simp; omega), ?_, o1.tr0 hO2⟩
 rw [show (ByteArray.mk #[99, 104, 97, 114, 116, 32, 99, 32, 123, 10, 32, 32, 118, 97, 114, 32, 110, 32, 61, 32, 45, 50, 59, 10, 32, 32, 115, 116, 97, 116, 101, 32, 97, 32, 123, 10, 32, 32, 32, 32, 111, 110, 32, 103, 111, 32, 91, 110, 32, 60, 32, 48, 93, 32, 123, 32, 115, 101, 116, 32, 110, 32, 61, 32, 110, 32, 43, 32, 49, 59, 32, 125, 32, 45, 62, 32, 98, 44, 32, 97, 59, 10, 32, 32, 125, 10, 32, 32, 100, 101, 101, 112, 32, 104, 32, 45, 62, 32, 97, 59, 10, 125, 10]) = T line8 from rfl, hok.2, hok.1, T_eq]
 simp
theorem printP_ok {c : Ch} (h : (printP c).2 = 0) : chOk c = true /\ (pageT (chL c)).length <= 16384 /\ (printP c).1 = pageT (chL c) /\ (parseC (pageT (chL c))).2.1 = 0 := by
 unfold printP at h ⊢
 by_cases h1 : chOk c = true
 · rw [if_pos h1] at h ⊢
   by_cases h2 : 16384 < (putLs [] (chL c)).length
   · rw [if_pos h2] at h; exact absurd h (by decide)
   · rw [if_neg h2] at h ⊢
     have e := put_tx (chL c) [] (by omega)
     rw [List.nil_append] at e
     rw [e] at h h2 ⊢
     by_cases h3 : (parseC (pageT (chL c))).2.1 ≠ 0
     · rw [if_pos h3] at h; exact absurd h (by decide)
     · rw [if_neg h3]
       exact ⟨h1, by omega, rfl, Decidable.not_not.1 h3⟩
 · rw [if_neg h1] at h; exact absurd h (by decide)
theorem printP_no {c : Ch} (h : (printP c).2 ≠ 0) : (printP c).1 = [] := by
 unfold printP at h ⊢
 split
 · split
   · rfl
   · split
     · rfl
     · rename_i h1 h2 h3
       rw [if_pos h1, if_neg h2, if_neg h3] at h
       exact absurd rfl h
 · rfl
theorem pback_c {w : World} {x : Ch × Nat} {cs : List Value} (hx : rChU w (fun _ => True) x cs) (hb : x.2 <= 1048576) (hE : Er w) (hT : Tb w) : Calls Tryz.prog 3 #[.agg cs.toArray] w fun e w' => e = .returned (.bool true) /\ Only [] w w' := by
 obtain ⟨c, m⟩ := x
 obtain ⟨D, vs, cs, rfl, hC, hn, hs⟩ := hx
 dsimp only at hC hn hs hb
 have hC0 := hC
 cases D with
 | zero => exact hC.root.elim
 | succ D =>
 obtain ⟨en, lv, mv, kids, rfl, _⟩ := hC0.root
 refine ret (v27w vs c.root.b.k (T c.root.b.nm) (T c.root.b.ini) (T c.root.b.dft) en lv mv kids c.root.b.a (fun v w' => v = .bool true /\ Only [] w w') w ?_)
 unfold v27v
 have keep : ∀ {w' : World}, Only [] w w' -> ChR false (D + 1) w' (fun _ => True) c vs (ndv c.root.b.k c.root.b.nm c.root.b.ini c.root.b.dft en lv mv kids c.root.b.a) := fun hO => ⟨hC.vars.keep rVr_ok (by decide) fun k _ hlt => hO.block k hlt (by simp), (rNd_ok false _).keep hC.root fun k _ hlt => hO.block k hlt (by simp)⟩
 intro k0 w0 hk0 hk0' hO0
 have z0 := hO0.size
 refine (psmall_c w0 (hE.only hO0) (hT.only hO0)).mono ?_
 rintro _ w1 ⟨rfl, hO1⟩
 have z1 := hO1.size
 have o1 := hO0.tr0 hO1
 refine ⟨_, rfl, hO1.same (by simp; omega), (print_c (keep o1) hn (by omega) (hE.only o1) (hT.only o1)).mono ?_⟩
 rintro _ w2 ⟨rfl, hO2⟩
 have z2 := hO2.size
 have o2 := o1.tr0 hO2
 refine ⟨_, _, rfl, hO2.same (by simp; omega), fun hc => ?_, fun hc => ?_⟩
 · have hc : (printP c).2 ≠ 0 := by simpa using hc
   rw [printP_no hc, show ByteArray.mk #[] = T [] from rfl, T_eq]
   exact ⟨rfl, o2⟩
 · have hc : (printP c).2 = 0 := by simpa using hc
   obtain ⟨h1, h2, h3, h4⟩ := printP_ok hc
   obtain ⟨_, h5⟩ := lines_law h1 hn h2
   rw [h3]
   refine (sparse_c _ (hE.only o2)).mono ?_
   rintro _ w3 ⟨vs', cs', rfl, hC3, hO3⟩
   obtain ⟨en', lv', mv', kids', rfl, _⟩ := hC3.root
   have z3 := hO3.size
   have o3 := o2.tr0 hO3
   refine ⟨vs', _, _, _, _, en', lv', mv', kids', _, _, _, rfl, hO3.same (by simp; omega), fun k1 k2 w4 hk1 hk1' hk2 hk2' hO4 => ?_⟩
   have z4 := hO4.size
   have o4 := o3.tr0 hO4
   have hC4 : ChR true 15 w4 (Fr w2.heap.size) (parseC (pageT (chL c))).1 vs' _ := ⟨hC3.vars.keep rVr_ok (by decide) fun k _ hlt => hO4.block k hlt (by simp), (rNd_ok true 15).keep hC3.root fun k _ hlt => hO4.block k hlt (by simp)⟩
   have hup := keep o4
   have e1 : ChR false (max (D + 1) 15) w4 (fun _ => True) c vs (ndv c.root.b.k c.root.b.nm c.root.b.ini c.root.b.dft en lv mv kids c.root.b.a) := ⟨hup.vars, rNd_le (Nat.le_max_left _ _) hup.root⟩
   have e2 : ChR false (max (D + 1) 15) w4 (Fr w2.heap.size) (parseC (pageT (chL c))).1 vs' _ := ⟨hC4.off.vars, rNd_le (Nat.le_max_right _ _) hC4.off.root⟩
   refine (sameCh_c (t := false) e1 e2 (h5 _)).mono ?_
   rintro _ w5 ⟨rfl, hO5⟩
   refine ⟨_, rfl, hO5.same (by simp; omega), ?_, o4.tr0 hO5⟩
   rw [h4]
   rfl
end Go.Proofs.YtndkfaaeeojeiaaGreatDoor.Con
