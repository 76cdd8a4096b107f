import Derived.Test.YtddfmhccaapgjaaQc4
set_option linter.unusedSectionVars false
namespace Go.Proofs.Ytddfmhccaapgjaa.Con
open Go Go.RowKit Go.Kt Go.Kt.V
set_option linter.unusedSimpArgs false
set_option linter.unusedVariables false
set_option maxHeartbeats 4000000
def Mk (w : World) (F : Nat -> Prop) (e : TypeId) (size : Nat) (s : Sl) : Prop := s.n = 0 ∨ ∃ g cs, s.a = some ⟨g, 0, none⟩ /\ F g /\ Blk w g e cs /\ s.n * size <= cs.length
def SlG {α : Type} (t : Bool) (r : Rp α) (size : Nat) (e : TypeId) (w : World) (F : Nat -> Prop) (s : Sl) (xs : List α) : Prop := SliceF r size w F s xs /\ (t = true -> Mk w F e size s)
section
variable {α : Type} {t : Bool} {r q : Rp α} {size : Nat} {e : TypeId} {w w' : World} {F G : Nat -> Prop} {s : Sl} {xs : List α} {B : Nat}
theorem Mk.keep (h : Mk w F e size s) (hk : ∀ k, F k -> k < w.heap.size -> w'.heap[k]? = w.heap[k]?) : Mk w' F e size s := by
 rcases h with h | ⟨g, cs, h1, h2, h3, h4⟩
 · exact .inl h
 · exact .inr ⟨g, cs, h1, h2, (hk g h2 h3.lt).trans h3, h4⟩
theorem Mk.mono (h : Mk w F e size s) (hk : ∀ k, F k -> k < w.heap.size -> G k) : Mk w G e size s := by
 rcases h with h | ⟨g, cs, h1, h2, h3, h4⟩
 · exact .inl h
 · exact .inr ⟨g, cs, h1, hk g h2 h3.lt, h3, h4⟩
theorem SlG.keep (hr : r.Ok) (h : SlG t r size e w F s xs) (hs : 0 < size) (hk : ∀ k, F k -> k < w.heap.size -> w'.heap[k]? = w.heap[k]?) : SlG t r size e w' F s xs := ⟨h.1.keep hr hs hk, fun x => (h.2 x).keep hk⟩
theorem SlG.inHeap (hr : r.Ok) (h : SlG t r size e w F s xs) (hs : 0 < size) : SlG t r size e w (fun k => F k /\ k < w.heap.size) s xs := ⟨h.1.inHeap hr hs, fun x => (h.2 x).mono fun k a b => ⟨a, b⟩⟩
theorem SlG.mono (hr : r.Ok) (h : SlG t r size e w F s xs) (hk : ∀ k, F k -> G k) : SlG t r size e w G s xs := ⟨h.1.mono hr hk, fun x => (h.2 x).mono fun k a _ => hk k a⟩
theorem SlG.nil (t : Bool) (r : Rp α) (size : Nat) (e : TypeId) (w : World) (F : Nat -> Prop) : SlG t r size e w F Sl.nil [] := ⟨SliceF.nil _ _ _ _, fun _ => .inl rfl⟩
theorem SlG.imp (h : SlG t r size e w F s xs) (hi : ∀ x cs, x ∈ xs -> r w F x cs -> q w F x cs) : SlG t q size e w F s xs := ⟨slImp h.1 hi, h.2⟩
theorem SlG.off (h : SlG t r size e w F s xs) (hi : ∀ x cs, x ∈ xs -> r w F x cs -> q w F x cs) : SlG false q size e w F s xs := ⟨slImp h.1 hi, fun h => (by cases h)⟩
theorem _root_.Go.Kt.Own.sl (hr : r.Ok) (h : Own r size e B w F s xs) (hF : ∀ k, B <= k -> F k) : SlG true r size e w F s xs := by
 refine ⟨(h.slice hr).mono hr fun k hk => hk.elim id fun x => hF k x.1, fun _ => ?_⟩
 rcases h with ⟨rfl, rfl⟩ | ⟨g, css, tail, h1, h2, h4, h5, h6, h7, h9, h8⟩
 · exact .inl rfl
 · exact .inr ⟨g, _, h1, hF g h2, h4, by rw [List.length_append, Els.flen h8, <- h6]; omega⟩
end
def rXg (t : Bool) : Nat -> Rp Ex
 | 0 => fun _ _ _ _ => False
 | d + 1 => fun w F x cs => ∃ sl : Sl, cs = exv x.k x.n x.s x.op sl x.a /\ SlG t (rXg t d) 6 96 w F sl x.subs
theorem rXg_ok (t : Bool) : ∀ d, (rXg t d).Ok
 | 0 => ⟨fun h _ => h.elim, fun h => h.elim, fun h _ => h.elim, fun h => h.elim⟩
 | d + 1 => ⟨fun ⟨sl, h1, h2⟩ hk => ⟨sl, h1, SlG.keep (rXg_ok t d) h2 (by decide) hk⟩, fun ⟨sl, h1, h2⟩ => ⟨sl, h1, SlG.inHeap (rXg_ok t d) h2 (by decide)⟩, fun ⟨sl, h1, h2⟩ hk => ⟨sl, h1, SlG.mono (rXg_ok t d) h2 hk⟩, fun ⟨sl, h1, h2⟩ => by
  subst h1
  intro v hv
  simp only [List.mem_cons, List.not_mem_nil, or_false] at hv
  rcases hv with rfl | rfl | rfl | rfl | rfl | rfl <;> rfl⟩
theorem rXg_up {t : Bool} {w : World} {F : Nat -> Prop} : ∀ {d : Nat} {x : Ex} {cs : List Value}, rXg t d w F x cs -> rXg t (d + 1) w F x cs
 | 0, _, _, h => h.elim
 | d + 1, x, cs, ⟨sl, h1, h2⟩ => ⟨sl, h1, h2.imp fun x cs _ h => rXg_up h⟩
theorem rXg_le {t : Bool} {w : World} {F : Nat -> Prop} {d e : Nat} {x : Ex} {cs : List Value} (h : d <= e) (hx : rXg t d w F x cs) : rXg t e w F x cs := by
  induction e with
  | zero => have : d = 0 := by omega
            subst this; exact hx
  | succ e ih =>
    by_cases he : d = e + 1
    · subst he; exact hx
    · exact rXg_up (ih (by omega))
theorem rXg_ex {t : Bool} {w : World} {F : Nat -> Prop} : ∀ {d : Nat} {x : Ex} {cs : List Value}, rXg t d w F x cs -> rEx d w F x cs
 | 0, _, _, h => h.elim
 | d + 1, x, cs, ⟨sl, h1, h2⟩ => ⟨sl, h1, slImp h2.1 fun x cs _ h => rXg_ex h⟩
theorem rEx_xg {w : World} {F : Nat -> Prop} : ∀ {d : Nat} {x : Ex} {cs : List Value}, rEx d w F x cs -> rXg false d w F x cs
 | 0, _, _, h => h.elim
 | d + 1, x, cs, ⟨sl, h1, h2⟩ => ⟨sl, h1, slImp h2 fun x cs _ h => rEx_xg h, fun h => (by cases h)⟩
def rE (t : Bool) : Rp Ex := fun w F x cs => ∃ d, rXg t d w F x cs
theorem rE_ok (t : Bool) : (rE t).Ok := ⟨fun ⟨d, h⟩ hk => ⟨d, (rXg_ok t d).keep h hk⟩, fun ⟨d, h⟩ => ⟨d, (rXg_ok t d).inHeap h⟩, fun ⟨d, h⟩ hk => ⟨d, (rXg_ok t d).mono h hk⟩, fun ⟨d, h⟩ => (rXg_ok t d).one h⟩
theorem rE_cells {t : Bool} {w : World} {F : Nat -> Prop} {x : Ex} {cs : List Value} (h : rE t w F x cs) : ∃ sl, cs = exv x.k x.n x.s x.op sl x.a := by
 obtain ⟨d, h⟩ := h
 cases d with
 | zero => exact h.elim
 | succ d => obtain ⟨sl, h, _⟩ := h; exact ⟨sl, h⟩
theorem rE_off {t : Bool} {w : World} {F : Nat -> Prop} {x : Ex} {cs : List Value} (h : rE t w F x cs) : rE false w F x cs := by
 obtain ⟨d, h⟩ := h
 exact ⟨d, rEx_xg (rXg_ex h)⟩
def acv (k : Int) (n : List UInt8) (xc : List Value) (a : Int) : List Value := .int .i64 k :: .string (T n) :: (xc ++ [.int .i64 a])
def rAc (t : Bool) : Rp Ac := fun w F x cs => ∃ xc, cs = acv x.k x.n xc x.a /\ rE t w F x.x xc
theorem rAc_ok (t : Bool) : (rAc t).Ok := ⟨fun ⟨c, h1, h2⟩ hk => ⟨c, h1, (rE_ok t).keep h2 hk⟩, fun ⟨c, h1, h2⟩ => ⟨c, h1, (rE_ok t).inHeap h2⟩, fun ⟨c, h1, h2⟩ hk => ⟨c, h1, (rE_ok t).mono h2 hk⟩, fun ⟨c, h1, h2⟩ => by
  subst h1
  intro v hv
  simp only [acv, List.mem_cons, List.mem_append, List.not_mem_nil, or_false] at hv
  rcases hv with rfl | rfl | h | rfl
  · rfl
  · rfl
  · exact (rE_ok t).one h2 v h
  · rfl⟩
def mvv (k : Int) (ev : List UInt8) (wt : Int) (gd : Bool) (gc : List Value) (asl tg : Sl) (a : Int) : List Value := .int .i64 k :: .string (T ev) :: .int .i64 wt :: .bool gd :: (gc ++ [asl.v, tg.v, .int .i64 a])
def rMv (t : Bool) : Rp Mv := fun w F x cs => ∃ gc asl tg, cs = mvv x.k x.ev x.wt x.gd gc asl tg x.a /\ rE t w F x.g gc /\ SlG t (rAc t) 9 113 w F asl x.acts /\ SlG t rTx 1 9 w F tg x.tg
theorem rMv_ok (t : Bool) : (rMv t).Ok := ⟨fun ⟨c, asl, tg, h1, h2, h3, h4⟩ hk => ⟨c, asl, tg, h1, (rE_ok t).keep h2 hk, h3.keep (rAc_ok t) (by decide) hk, h4.keep rTx_ok (by decide) hk⟩,
 fun ⟨c, asl, tg, h1, h2, h3, h4⟩ => ⟨c, asl, tg, h1, (rE_ok t).inHeap h2, h3.inHeap (rAc_ok t) (by decide), h4.inHeap rTx_ok (by decide)⟩,
 fun ⟨c, asl, tg, h1, h2, h3, h4⟩ hk => ⟨c, asl, tg, h1, (rE_ok t).mono h2 hk, h3.mono (rAc_ok t) hk, h4.mono rTx_ok hk⟩,
 fun ⟨c, asl, tg, h1, h2, h3, h4⟩ => by
  subst h1
  intro v hv
  simp only [mvv, List.mem_cons, List.mem_append, List.not_mem_nil, or_false] at hv
  rcases hv with rfl | rfl | rfl | rfl | h | rfl | rfl | rfl
  · rfl
  · rfl
  · rfl
  · rfl
  · exact (rE_ok t).one h2 v h
  · rfl
  · rfl
  · rfl⟩
def rVr : Rp Vr := fun _ _ x cs => cs = [.string (T x.n), .int .i64 x.v, .int .i64 x.a]
theorem rVr_ok : rVr.Ok := ⟨fun h _ => h, fun h => h, fun h _ => h, fun h => by
  unfold rVr at h
  subst h
  intro v hv
  simp only [List.mem_cons, List.not_mem_nil, or_false] at hv
  rcases hv with rfl | rfl | rfl <;> rfl⟩
abbrev ndv (k : Int) (nm ini dft : List UInt8) (en lv mv kids : Sl) (a : Int) : List Value := [.int .i64 k, .string (T nm), .string (T ini), .string (T dft), en.v, lv.v, mv.v, kids.v, .int .i64 a]
def NbR (t : Bool) (w : World) (F : Nat -> Prop) (x : Nb) (en lv mv : Sl) : Prop := SlG t (rAc t) 9 113 w F en x.en /\ SlG t (rAc t) 9 113 w F lv x.lv /\ SlG t (rMv t) 13 99 w F mv x.mv
def rNd (t : Bool) : Nat -> Rp Nd
 | 0 => fun _ _ _ _ => False
 | d + 1 => fun w F x cs => ∃ en lv mv kids : Sl, cs = ndv x.b.k x.b.nm x.b.ini x.b.dft en lv mv kids x.b.a /\ NbR t w F x.b en lv mv /\ SlG t (rNd t d) 9 27 w F kids x.kids
section
variable {t : Bool} {w w' : World} {F G : Nat -> Prop} {x : Nb} {en lv mv : Sl}
theorem NbR.keep (h : NbR t w F x en lv mv) (hk : ∀ k, F k -> k < w.heap.size -> w'.heap[k]? = w.heap[k]?) : NbR t w' F x en lv mv := ⟨h.1.keep (rAc_ok t) (by decide) hk, h.2.1.keep (rAc_ok t) (by decide) hk, h.2.2.keep (rMv_ok t) (by decide) hk⟩
theorem NbR.inHeap (h : NbR t w F x en lv mv) : NbR t w (fun k => F k /\ k < w.heap.size) x en lv mv := ⟨h.1.inHeap (rAc_ok t) (by decide), h.2.1.inHeap (rAc_ok t) (by decide), h.2.2.inHeap (rMv_ok t) (by decide)⟩
theorem NbR.mono (h : NbR t w F x en lv mv) (hk : ∀ k, F k -> G k) : NbR t w G x en lv mv := ⟨h.1.mono (rAc_ok t) hk, h.2.1.mono (rAc_ok t) hk, h.2.2.mono (rMv_ok t) hk⟩
end
theorem rNd_ok (t : Bool) : ∀ d, (rNd t d).Ok
 | 0 => ⟨fun h _ => h.elim, fun h => h.elim, fun h _ => h.elim, fun h => h.elim⟩
 | d + 1 => ⟨fun ⟨en, lv, mv, kids, h1, h2, h3⟩ hk => ⟨en, lv, mv, kids, h1, h2.keep hk, SlG.keep (rNd_ok t d) h3 (by decide) hk⟩,
  fun ⟨en, lv, mv, kids, h1, h2, h3⟩ => ⟨en, lv, mv, kids, h1, h2.inHeap, SlG.inHeap (rNd_ok t d) h3 (by decide)⟩,
  fun ⟨en, lv, mv, kids, h1, h2, h3⟩ hk => ⟨en, lv, mv, kids, h1, h2.mono hk, SlG.mono (rNd_ok t d) h3 hk⟩, fun ⟨en, lv, mv, kids, h1, h2, h3⟩ => by
  subst h1
  intro v hv
  simp only [List.mem_cons, List.not_mem_nil, or_false] at hv
  rcases hv with rfl | rfl | rfl | rfl | rfl | rfl | rfl | rfl | rfl <;> rfl⟩
theorem rNd_up {t : Bool} {w : World} {F : Nat -> Prop} : ∀ {d : Nat} {x : Nd} {cs : List Value}, rNd t d w F x cs -> rNd t (d + 1) w F x cs
 | 0, _, _, h => h.elim
 | d + 1, x, cs, ⟨en, lv, mv, kids, h1, h2, h3⟩ => ⟨en, lv, mv, kids, h1, h2, h3.imp fun x cs _ h => rNd_up h⟩
theorem rNd_le {t : Bool} {w : World} {F : Nat -> Prop} {d e : Nat} {x : Nd} {cs : List Value} (h : d <= e) (hx : rNd t d w F x cs) : rNd t e w F x cs := by
  induction e with
  | zero => have : d = 0 := by omega
            subst this; exact hx
  | succ e ih =>
    by_cases he : d = e + 1
    · subst he; exact hx
    · exact rNd_up (ih (by omega))
theorem rAc_off {t : Bool} {w : World} {F : Nat -> Prop} {x : Ac} {cs : List Value} (h : rAc t w F x cs) : rAc false w F x cs := by
 obtain ⟨c, h1, h2⟩ := h
 exact ⟨c, h1, rE_off h2⟩
theorem rMv_off {t : Bool} {w : World} {F : Nat -> Prop} {x : Mv} {cs : List Value} (h : rMv t w F x cs) : rMv false w F x cs := by
 obtain ⟨c, asl, tg, h1, h2, h3, h4⟩ := h
 exact ⟨c, asl, tg, h1, rE_off h2, h3.off fun _ _ _ h => rAc_off h, h4.off fun _ _ _ h => h⟩
theorem NbR.off {t : Bool} {w : World} {F : Nat -> Prop} {x : Nb} {en lv mv : Sl} (h : NbR t w F x en lv mv) : NbR false w F x en lv mv := ⟨h.1.off fun _ _ _ h => rAc_off h, h.2.1.off fun _ _ _ h => rAc_off h, h.2.2.off fun _ _ _ h => rMv_off h⟩
theorem rNd_off {t : Bool} {w : World} {F : Nat -> Prop} : ∀ {d : Nat} {x : Nd} {cs : List Value}, rNd t d w F x cs -> rNd false d w F x cs
 | 0, _, _, h => h.elim
 | d + 1, x, cs, ⟨en, lv, mv, kids, h1, h2, h3⟩ => ⟨en, lv, mv, kids, h1, h2.off, h3.off fun x cs _ h => rNd_off h⟩
structure ChR (t : Bool) (d : Nat) (w : World) (F : Nat -> Prop) (c : Ch) (vs : Sl) (cs : List Value) : Prop where
 vars : SlG t rVr 3 71 w F vs c.vars
 root : rNd t d w F c.root cs
abbrev Fr (B : Nat) : Nat -> Prop := fun k => B <= k
section
variable {α : Type} {r : Rp α} {size : Nat} {e : TypeId} {w w' : World} {s : Sl} {xs : List α} {B : Nat}
theorem _root_.Go.Kt.Own.stay (hr : r.Ok) (h : Own r size e B w (Fr B) s xs) {bs : List Nat} (hO : Only bs w w') (hb : ∀ x, x ∈ bs -> x < B ∨ w.heap.size <= x) : Own r size e B w' (Fr B) s xs := by
 refine ((h.inHeap hr).keep hr fun k hk hlt => hO.block k hlt fun hm => ?_).mono hr fun k hk => hk.1
 have hk' : B <= k /\ k < w.heap.size := by
  rcases hk with hk | hk
  · exact hk
  · exact ⟨hk.1, hlt⟩
 rcases hb k hm with h | h <;> omega
theorem _root_.Go.Kt.Own.new (h : Own r size e B w (Fr B) s xs) {k : Nat} (hk : w.heap.size <= k) : s.a ≠ some ⟨k, 0, none⟩ := fun e => by
 have := (h.blk e).2
 dsimp only at this
 omega
end
end Go.Proofs.Ytddfmhccaapgjaa.Con
namespace Go.Proofs.Ytddfmhccaapgjaa.Con
open Go Go.RowKit Go.Kt Go.Kt.V Go.Proofs.Ytddfmhccaapgjaa.Vc
set_option linter.unusedSimpArgs false
set_option linter.unusedVariables false
set_option maxHeartbeats 4000000
mutual
def dpX : Ex -> Nat
 | .mk _ _ _ _ l _ => dpL l + 1
def dpL : List Ex -> Nat
 | [] => 0
 | x :: l => max (dpX x) (dpL l)
end
mutual
def szX : Ex -> Nat
 | .mk _ _ s _ l _ => szL l + (s.length + 1)
def szL : List Ex -> Nat
 | [] => 0
 | x :: l => szX x + szL l
end
theorem dpX_eq (x : Ex) : dpX x = dpL x.subs + 1 := by cases x; rw [dpX]; rfl
theorem szX_eq (x : Ex) : szX x = szL x.subs + (x.s.length + 1) := by cases x; rw [szX]; rfl
theorem dpL_mem {y : Ex} : ∀ {l : List Ex}, y ∈ l -> dpX y <= dpL l
 | [], h => by simp at h
 | x :: l, h => by
  rw [dpL]
  rcases List.mem_cons.1 h with rfl | h
  · exact Nat.le_max_left _ _
  · exact Nat.le_trans (dpL_mem h) (Nat.le_max_right _ _)
theorem szL_mem {y : Ex} : ∀ {l : List Ex}, y ∈ l -> szX y <= szL l
 | [], h => by simp at h
 | x :: l, h => by
  rw [szL]
  rcases List.mem_cons.1 h with rfl | h
  · omega
  · have := szL_mem h; omega
theorem dpL_le {d : Nat} : ∀ {l : List Ex}, (∀ y, y ∈ l -> dpX y <= d) -> dpL l <= d
 | [], _ => by rw [dpL]; omega
 | x :: l, h => by
  rw [dpL]
  exact Nat.max_le.2 ⟨h x (by simp), dpL_le fun y hy => h y (by simp [hy])⟩
theorem dp_pos (x : Ex) : 1 <= dpX x := by rw [dpX_eq]; omega
theorem rEx_dp {w : World} {F : Nat -> Prop} : ∀ {d : Nat} {x : Ex} {cs : List Value}, rEx d w F x cs -> dpX x <= d
 | 0, _, _, h => h.elim
 | d + 1, x, cs, ⟨sl, h1, h2⟩ => by
  rw [dpX_eq]
  refine Nat.succ_le_succ (dpL_le fun y hy => ?_)
  obtain ⟨j, hj⟩ := List.getElem?_of_mem hy
  obtain ⟨_, cs, _, _, _, _, h⟩ := h2.at_ j y hj
  exact rEx_dp h
theorem all1_congr {f g : Ex -> Bool} : ∀ {l : List Ex}, (∀ y, y ∈ l -> f y = g y) -> all1 f l = all1 g l
 | [], _ => rfl
 | x :: l, h => by rw [all1, all1, h x (by simp), all1_congr fun y hy => h y (by simp [hy])]
theorem shape_dp : ∀ (d e : Nat) (x : Ex), dpX x <= d -> dpX x <= e -> shapeM d x = shapeM e x
 | 0, _, x, h, _ => by have := dp_pos x; omega
 | _, 0, x, _, h => by have := dp_pos x; omega
 | d + 1, e + 1, x, h, k => by
  rw [dpX_eq] at h k
  rw [shapeM, shapeM, all1_congr fun y hy => shape_dp d e y (by have := dpL_mem hy; omega) (by have := dpL_mem hy; omega)]
theorem pg_dp : ∀ (d e : Nat) (x : Ex) (wr : Bool) (l : List UInt8), dpX x <= d -> dpX x <= e -> pgM d x wr l = pgM e x wr l
 | 0, _, x, _, _, h, _ => by have := dp_pos x; omega
 | _, 0, x, _, _, _, h => by have := dp_pos x; omega
 | d + 1, e + 1, x, wr, l, h, k => by
  rw [dpX_eq] at h k
  have hm : ∀ y, y ∈ x.subs -> dpX y <= d /\ dpX y <= e := fun y hy => by have := dpL_mem hy; omega
  rw [pgM, pgM]
  cases hx : x.subs with
  | nil => rfl
  | cons y m =>
   cases m with
   | nil =>
    have hy := hm y (by rw [hx]; simp)
    dsimp only
    rw [pg_dp d e y _ _ hy.1 hy.2]
   | cons z m =>
    cases m with
    | nil =>
     have hy := hm y (by rw [hx]; simp)
     have hz := hm z (by rw [hx]; simp)
     dsimp only
     rw [pg_dp d e y _ _ hy.1 hy.2, pg_dp d e z _ _ hz.1 hz.2]
    | cons _ _ => rfl
theorem len_sz : ∀ (d : Nat) (x : Ex), szX x < 4611686018427387903 -> lenOk d x
 | 0, x, _ => trivial
 | d + 1, x, h => by
  rw [szX_eq] at h
  exact ⟨by omega, fun y hy => len_sz d y (by have := szL_mem hy; omega)⟩
def okN (x : Ex) : Prop := ∀ d, numOk d x
theorem okN.sub {x y : Ex} (h : okN x) (hy : y ∈ x.subs) : okN y := fun d => (h (d + 1)).2 y hy
def exX (x : Ex) : List UInt8 := textM (dpX x) x
theorem text_dp {d : Nat} {x : Ex} (h : dpX x <= d) : textM d x = exX x := by
 unfold exX textM
 rw [shape_dp d (dpX x) x h (Nat.le_refl _), pg_dp d (dpX x) x false [] h (Nat.le_refl _)]
theorem text_ne2 {d : Nat} {x : Ex} (h : textM d x ≠ []) : shapeM d x = true /\ textM d x = pgM d x false [] /\ (readA (pgM d x false [])).2.1 = 0 := by
 unfold textM at h ⊢
 by_cases hs : shapeM d x = true
 · rw [if_pos hs] at h ⊢
   by_cases hr : (readA (pgM d x false [])).2.1 ≠ 0
   · rw [if_pos hr] at h
     exact absurd rfl h
   · rw [if_neg hr]
     exact ⟨hs, rfl, by simpa using hr⟩
 · rw [if_neg hs] at h
   exact absurd rfl h
end Go.Proofs.Ytddfmhccaapgjaa.Con
namespace Go.Proofs.Ytddfmhccaapgjaa.Con
open Go Go.RowKit Go.Kt Go.Kt.V
set_option linter.unusedSimpArgs false
set_option linter.unusedVariables false
set_option maxHeartbeats 4000000
def exOk (x : Ex) : Bool := decide (exX x ≠ [])
mutual
def nNd : Nd -> Nat
 | .mk _ l => nNds l + 1
def nNds : List Nd -> Nat
 | [] => 0
 | x :: l => nNd x + nNds l
end
def acT (a : Ac) : List UInt8 :=
 if a.k = 2 then wRaise ++ 32 :: (a.n ++ [59]) else (if a.k = 1 then wSet else wEmit) ++ 32 :: (a.n ++ 32 :: 61 :: 32 :: (exX a.x ++ [59]))
def acsT : List Ac -> List UInt8
 | [] => []
 | a :: l => 32 :: (acT a ++ acsT l)
def blT (l : List Ac) : List UInt8 := 123 :: (acsT l ++ [32, 125])
def acN (a : Ac) : Prop := okN a.x
structure mvN (m : Mv) : Prop where
 g : okN m.g
 a : ∀ x, x ∈ m.acts -> acN x
 w : InI m.wt
structure nbN (b : Nb) : Prop where
 en : ∀ a, a ∈ b.en -> acN a
 lv : ∀ a, a ∈ b.lv -> acN a
 mv : ∀ m, m ∈ b.mv -> mvN m
mutual
def ndN : Nd -> Prop
 | .mk b l => nbN b /\ ndsN l
def ndsN : List Nd -> Prop
 | [] => True
 | x :: l => ndN x /\ ndsN l
end
structure chN (c : Ch) : Prop where
 v : ∀ v, v ∈ c.vars -> InI v.v
 r : ndN c.root
end Go.Proofs.Ytddfmhccaapgjaa.Con
namespace Go.Proofs.Ytddfmhccaapgjaa.Con
open Go Go.RowKit Go.Kt Go.Kt.V Go.Proofs.Ytddfmhccaapgjaa.Vc
set_option linter.unusedSimpArgs false
set_option linter.unusedVariables false
set_option maxHeartbeats 4000000
def ne (l : List UInt8) : Bool := !decide (l = [])
theorem Only.below {w w' : World} (h : Below w.heap.size w w') : Only [] w w' := ⟨h.os, h.tape, h.output, h.size, fun k hk _ => h.block k hk⟩
structure Fz (bs : List Nat) (w w' : World) (ks : List Nat) : Prop where
 o : Only bs w w'
 k : ∀ x, x ∈ ks -> w.heap.size <= x /\ x < w'.heap.size
 lo : ∀ x, x ∈ bs -> x < w.heap.size
section
variable {bs bs' ks ks' : List Nat} {w w1 w2 w' : World} {k0 b : Nat}
theorem Fz.go (h : Fz bs w w1 ks) (k : Only bs' w1 w2) (hb : ∀ x, x ∈ bs' -> x ∈ bs ∨ x ∈ ks) : Fz bs w w2 ks :=
 ⟨h.o.trans k fun x hx => (hb x hx).imp id fun hk => (h.k x hk).1, fun x hx => ⟨(h.k x hx).1, Nat.lt_of_lt_of_le (h.k x hx).2 k.size⟩, h.lo⟩
theorem Fz.new (h : Fz bs w w1 ks) (k : Only bs' w1 w2) (hb : ∀ x, x ∈ bs' -> x ∈ bs ∨ w.heap.size <= x) : Fz bs w w2 ks :=
 ⟨h.o.trans k hb, fun x hx => ⟨(h.k x hx).1, Nat.lt_of_lt_of_le (h.k x hx).2 k.size⟩, h.lo⟩
theorem Fz.q (h : Fz bs w w1 ks) (k : Only [] w1 w2) : Fz bs w w2 ks := h.go k fun x hx => (by cases hx)
theorem Fz.c (h : Fz (b :: bs) w w1 ks) (k : Only [b] w1 w2) : Fz (b :: bs) w w2 ks := h.go k fun x hx => .inl (by simp only [List.mem_singleton] at hx; simp [hx])
theorem Fz.f (h : Fz bs w w1 ks) (k : Only [k0] w1 w2) (hk : k0 ∈ ks) : Fz bs w w2 ks := h.go k fun x hx => .inr (by simp only [List.mem_singleton] at hx; rw [hx]; exact hk)
theorem Fz.al (h : Fz bs w w1 ks) (k : Only [] w1 w2) (h1 : w1.heap.size <= k0) (h2 : k0 < w2.heap.size) : Fz bs w w2 (k0 :: ks) :=
 ⟨(h.q k).o, fun x hx => by
  rcases List.mem_cons.1 hx with rfl | hx
  · exact ⟨Nat.le_trans h.o.size h1, h2⟩
  · exact (h.q k).k x hx, h.lo⟩
theorem Fz.sm (h : Fz bs w w1 ks) (k : Only bs' w1 w2) (hk : ∀ x, x ∈ ks' -> x ∈ ks) (hb : ∀ x, x ∈ bs' -> x ∈ bs ∨ ∀ y, y ∈ ks' -> y ≠ x) : Same ks' w1 w2 := k.same fun x hx =>
 ⟨(h.k x (hk x hx)).2, fun hm => by
  rcases hb x hm with h1 | h1
  · have := (h.k x (hk x hx)).1
    have := h.lo x h1
    omega
  · exact h1 x hx rfl⟩
theorem Fz.sc (h : Fz (b :: bs) w w1 ks) (k : Only [b] w1 w2) (hk : ∀ x, x ∈ ks' -> x ∈ ks) : Same ks' w1 w2 := h.sm k hk fun x hx => .inl (by simp only [List.mem_singleton] at hx; simp [hx])
theorem Fz.ne (h : Fz bs w w1 ks) (hk : k0 ∈ ks) (hb : b ∈ bs) : k0 ≠ b := fun e => by
 have := (h.k k0 hk).1
 have := h.lo b hb
 omega
end
section
variable {α : Type} {r : Rp α} {w w1 w' : World} {x : α} {cs : List Value} {B : Nat}
structure Stay (B : Nat) (w w' : World) : Prop where
 sz : w.heap.size <= w'.heap.size
 eq : ∀ k, B <= k -> k < w.heap.size -> w'.heap[k]? = w.heap[k]?
theorem Stay.refl (B : Nat) (w : World) : Stay B w w := ⟨Nat.le_refl _, fun _ _ _ => rfl⟩
theorem Stay.go {bs : List Nat} (h : Stay B w w1) (k : Only bs w1 w') (hb : ∀ x, x ∈ bs -> x < B ∨ w.heap.size <= x) : Stay B w w' :=
 ⟨Nat.le_trans h.sz k.size, fun i h1 h2 => (k.block i (Nat.lt_of_lt_of_le h2 h.sz) fun hm => by have := hb i hm; omega).trans (h.eq i h1 h2)⟩
theorem Stay.of {bs : List Nat} (k : Only bs w w') (hb : ∀ x, x ∈ bs -> x < B ∨ w.heap.size <= x) : Stay B w w' := (Stay.refl B w).go k hb
theorem _root_.Go.Kt.Rp.Ok.stay (hr : r.Ok) (h : r w (Fr B) x cs) (hs : Stay B w w') : r w' (Fr B) x cs :=
 hr.mono (hr.keep (hr.inHeap h) fun k hk hlt => hs.eq k hk.1 hlt) fun k hk => hk.1
theorem _root_.Go.Kt.Rp.Ok.low (hr : r.Ok) (h : r w (Fr B) x cs) {A : Nat} (hA : A <= B) : r w (Fr A) x cs := hr.mono h fun k hk => Nat.le_trans hA hk
variable {size : Nat} {e : TypeId} {s : Sl} {xs : List α} {t : Bool}
theorem SlG.stay (hr : r.Ok) (h : SlG t r size e w (Fr B) s xs) (h0 : 0 < size) (hs : Stay B w w') : SlG t r size e w' (Fr B) s xs :=
 ((h.inHeap hr h0).keep hr h0 fun k hk hlt => hs.eq k hk.1 hlt).mono hr fun k hk => hk.1
theorem SlG.low (hr : r.Ok) (h : SlG t r size e w (Fr B) s xs) {A : Nat} (hA : A <= B) : SlG t r size e w (Fr A) s xs := h.mono hr fun k hk => Nat.le_trans hA hk
end
section
variable {F : Nat -> Prop} {ts : List Tk} {w w' : World} {b : Nat} {l : Sl} {s s' : Sx}
section
variable {w2 : World} {ks ks' : List Nat} {k0 : Nat}
theorem Stay.q {B : Nat} (h : Stay B w w') (k : Only [] w' w2) : Stay B w w2 := h.go k fun x hx => (by cases hx)
theorem Stay.f {B : Nat} (h : Stay B w w') (k : Only [k0] w' w2) (hk : k0 < B ∨ w.heap.size <= k0) : Stay B w w2 := h.go k fun x hx => (by simp only [List.mem_singleton] at hx; subst hx; exact hk)
end
end
section
variable {F : Nat -> Prop} {ts : List Tk} {w w' : World} {b : Nat} {l : Sl} {s s' : Sx}
structure MvX (A : Nat) (w : World) (m : Mv) (k : Int) (ev : ByteArray) (wt : Int) (gd : Bool) (gc : List Value) (asl : Sl) (a : Int) : Prop where
 e1 : k = m.k
 e2 : ev = T m.ev
 e3 : wt = m.wt
 e4 : gd = m.gd
 e5 : a = m.a
 g : rE true w (Fr A) m.g gc
 x : SlG true (rAc true) 9 113 w (Fr A) asl m.acts
theorem MvX.stay {A : Nat} {m : Mv} {k : Int} {ev : ByteArray} {wt : Int} {gd : Bool} {gc : List Value} {asl : Sl} {a : Int} (h : MvX A w m k ev wt gd gc asl a) (hs : Stay A w w') : MvX A w' m k ev wt gd gc asl a :=
 ⟨h.e1, h.e2, h.e3, h.e4, h.e5, (rE_ok true).stay h.g hs, h.x.stay (rAc_ok true) (by decide) hs⟩
end
structure NbO (B : Nat) (w : World) (n : Nb) (en lv mv : Sl) : Prop where
 en : SlG true (rAc true) 9 113 w (fun k => B <= k /\ mv.a ≠ some ⟨k, 0, none⟩) en n.en
 lv : SlG true (rAc true) 9 113 w (fun k => B <= k /\ mv.a ≠ some ⟨k, 0, none⟩) lv n.lv
 mv : Own (rMv true) 13 99 B w (Fr B) mv n.mv
section
variable {B : Nat} {w w' : World} {n : Nb} {en lv mv : Sl}
theorem NbO.go (h : NbO B w n en lv mv) {bs : List Nat} (k : Only bs w w') (hb : ∀ x, x ∈ bs -> x < B) : NbO B w' n en lv mv :=
 ⟨h.en.keep (rAc_ok true) (by decide) fun i hi hlt => k.block i hlt fun hm => (by have := hb i hm; omega), h.lv.keep (rAc_ok true) (by decide) fun i hi hlt => k.block i hlt fun hm => (by have := hb i hm; omega), h.mv.stay (rMv_ok true) k fun x hx => .inl (hb x hx)⟩
theorem NbO.app (h : NbO B w n en lv mv) {gs : List Nat} {mv' : Sl} {m : Mv} (hown : Own (rMv true) 13 99 B w' (fun k => Fr B k ∨ w.heap.size <= k) mv' (n.mv ++ [m])) (k : Only gs w w') (hgs : ∀ g, g ∈ gs -> mv.a = some ⟨g, 0, none⟩) (ha : mv'.a = mv.a ∨ ∃ g, mv'.a = some ⟨g, 0, none⟩ /\ w.heap.size <= g) (hB : B <= w.heap.size) : NbO B w' { n with mv := n.mv ++ [m] } en lv mv' := by
 have go : ∀ {la : Sl} {xs : List Ac}, SlG true (rAc true) 9 113 w (fun k => B <= k /\ mv.a ≠ some ⟨k, 0, none⟩) la xs -> SlG true (rAc true) 9 113 w' (fun k => B <= k /\ mv'.a ≠ some ⟨k, 0, none⟩) la xs := fun hx =>
  ((hx.inHeap (rAc_ok true) (by decide)).keep (rAc_ok true) (by decide) fun i hi hlt => k.block i hlt fun hm => hi.1.2 (hgs i hm)).mono (rAc_ok true) fun i hi => ⟨hi.1.1, by
   rcases ha with ha | ⟨g, ha, hg⟩
   · rw [ha]; exact hi.1.2
   · rw [ha]
     intro e
     injection e with e
     injection e with e
     have := hi.2
     omega⟩
 exact ⟨go h.en, go h.lv, hown.mono (rMv_ok true) fun i hi => hi.elim id fun hi => Nat.le_trans hB hi⟩
end
section
variable {F : Nat -> Prop} {ts : List Tk} {w w' w2 : World} {b : Nat} {l : Sl} {g t : Nat} {pre : List Value} {kh B : Nat} {s s' : Sx} {n n' : Nb} {h h' : Had} {en lv mv en' lv' mv' : Sl}
theorem j3 {j : Nat} (h0 : j ≠ 0) (h3 : j <= 3) : j = 1 ∨ j = 2 ∨ j = 3 := by omega
end
theorem ChR.stay {d : Nat} {w w' : World} {B : Nat} {c : Ch} {vs : Sl} {cs : List Value} (h : ChR true d w (Fr B) c vs cs) (hs : Stay B w w') : ChR true d w' (Fr B) c vs cs := ⟨h.vars.stay rVr_ok (by decide) hs, (rNd_ok true d).stay h.root hs⟩
theorem ChR.low {d : Nat} {w : World} {A B : Nat} {c : Ch} {vs : Sl} {cs : List Value} (h : ChR true d w (Fr B) c vs cs) (hA : A <= B) : ChR true d w (Fr A) c vs cs := ⟨h.vars.low rVr_ok hA, (rNd_ok true d).low h.root hA⟩
def Bu (w : World) (b k : Nat) : Prop := ∃ n c, w.cell? ⟨b, 1, none⟩ = some (.slice (some ⟨k, 0, none⟩) n c)
structure Mw (f : Bool) (b : Nat) (w w' : World) : Prop where
 o : OnlyP (fun k => k = b ∨ (f = false /\ Bu w b k)) w w'
 u : ∀ k, Bu w' b k -> Bu w b k ∨ (f = false /\ w.heap.size <= k)
abbrev St := Bool × Int
structure Up (st : St) (c : Bool) (n : Nat) (st' : St) : Prop where
 w : st'.1 = ((st.1 || !c) || decide (400 < st.2 + n))
 a : st'.1 = false -> st'.2 = st.2 + n
theorem or3 {a b c : Bool} (h : false = ((a || !b) || c)) : a = false /\ b = true /\ c = false := by
 revert h
 cases a <;> cases b <;> cases c <;> decide
theorem Up.ok {st st' : St} {c : Bool} {n : Nat} (h : Up st c n st') (e : st'.1 = false) : st.1 = false /\ c = true /\ st'.2 = st.2 + n /\ ¬ 400 < st.2 + (n : Int) := by
 obtain ⟨a, b, d⟩ := or3 (e.symm.trans h.w)
 exact ⟨a, b, h.a e, of_decide_eq_false d⟩
theorem Up.le {st st' : St} {c : Bool} {n : Nat} (h : Up st c n st') (h0 : st.1 = false -> 0 <= st.2) (e : st'.1 = false) : 0 <= st'.2 /\ st'.2 <= 400 := by
 obtain ⟨a, b, d, h2⟩ := h.ok e
 have := h0 a
 omega
section
variable {f g : Bool} {w0 ws w w' w1 w'' : World} {b k : Nat} {l l' : List UInt8} {st st' : St} {ks ks' : List Nat}
theorem Mw.refl (f : Bool) (b : Nat) (w : World) : Mw f b w w := ⟨OnlyP.refl _ _, fun _ h => .inl h⟩
theorem Mw.trans (h : Mw f b w w') (k : Mw f b w' w'') : Mw f b w w'' := by
 have z := h.o.size
 refine ⟨h.o.trans k.o fun x hx => ?_, fun x hx => ?_⟩
 · rcases hx with hx | ⟨ef, hx⟩
   · exact .inl (.inl hx)
   · rcases h.u x hx with e | ⟨_, e⟩
     · exact .inl (.inr ⟨ef, e⟩)
     · exact .inr e
 · rcases k.u x hx with e | ⟨ef, e⟩
   · exact h.u x e
   · exact .inr ⟨ef, by omega⟩
theorem Mw.up (h : Mw f b w w') : Mw false b w w' := ⟨h.o.mono fun k _ hk => hk.elim .inl fun e => .inr ⟨rfl, e.2⟩, fun k hk => (h.u k hk).elim .inl fun e => .inr ⟨rfl, e.2⟩⟩
theorem Mw.only1 (h : Mw true b w w') : Only [b] w w' := h.o.only' fun k hk => hk.elim (fun e => .inl (by rw [e]; simp)) fun e => (by cases e.1)
theorem bu_keep (h : w'.heap[b]? = w.heap[b]?) {k : Nat} (hb : Bu w' b k) : Bu w b k := by
 obtain ⟨n, c, hc⟩ := hb
 refine ⟨n, c, ?_⟩
 unfold World.cell? at hc ⊢
 rw [h] at hc
 exact hc
theorem Mw.only (hb : b < w.heap.size) (h : Only [] w w') : Mw f b w w' := ⟨h.p0, fun k hk => .inl (bu_keep (h.block b hb (by simp)) hk)⟩
theorem Keeps.of {ks : List Nat} (h : Same ks w w') : Keeps (fun k => k ∈ ks) w w' := fun k hk _ => h k hk
end
def szA (a : Ac) : Nat := szX a.x + (a.n.length + 1)
def szAs : List Ac -> Nat
 | [] => 0
 | a :: l => szA a + szAs l
theorem szAs_mem {a : Ac} : ∀ {l : List Ac}, a ∈ l -> szA a <= szAs l
 | [], h => by simp at h
 | x :: l, h => by
  rw [szAs]
  rcases List.mem_cons.1 h with rfl | h
  · omega
  · have := szAs_mem h; omega
theorem szAs_len : ∀ (l : List Ac), l.length <= szAs l
 | [] => Nat.zero_le _
 | a :: l => by
  have := szAs_len l
  rw [szAs, List.length_cons]
  unfold szA
  omega
def szT (l : List (List UInt8)) : Nat := (l.map fun s => s.length + 1).sum
def szM (m : Mv) : Nat := (szAs m.acts + szX m.g) + (szT m.tg + (m.ev.length + 1))
theorem exX_len (x : Ex) : (exX x).length <= 16384 := by
 by_cases h : exX x = []
 · rw [h]; exact Nat.zero_le _
 · obtain ⟨h1, h2, h3⟩ := text_ne2 h
   refine Decidable.byContradiction fun hc => ?_
   have e : exX x = pgM (dpX x) x false [] := h2
   rw [<- e] at h3
   unfold readA at h3
   have : tokensM (exX x) = ([], 2, -1) := by rw [tokensM, if_pos (by omega)]
   rw [this, if_pos (by decide)] at h3
   exact absurd h3 (show ¬ (2 : Int) = 0 by decide)
theorem Up.bad {st st' : St} {c c' : Bool} {n n' : Nat} (h : Up st c n st') (e : st'.1 = true) (hc : c' = true -> c = true) (hn : n <= n') : Up st c' n' st' := by
 refine ⟨?_, fun e2 => by rw [e] at e2; cases e2⟩
 rw [e]
 refine Eq.symm (Decidable.byContradiction fun hk => ?_)
 obtain ⟨a1, a2, a3⟩ := or3 (Bool.eq_false_iff.2 hk).symm
 have a3 := of_decide_eq_false a3
 have := h.w
 rw [e, a1, hc a2, decide_eq_false (show ¬ 400 < st.2 + (n : Int) by omega)] at this
 cases this
theorem _root_.Go.Kt.Own.far {w w' : World} {B b : Nat} {s : Sl} {ws : List (List UInt8)} (h : Own rTx 1 9 B w (fun _ => True) s ws) (hO : Only [b] w w') (hb : b < B) : Own rTx 1 9 B w' (fun _ => True) s ws := by
 rcases h with ⟨rfl, rfl⟩ | ⟨g, css, tail, h1, h2, h4, h5, h6, h7, h9, h8⟩
 · exact .inl ⟨rfl, rfl⟩
 · have e : ∀ {l : List (List UInt8)} {css : List (List Value)}, Els rTx 1 w (fun k => True /\ k ≠ g) l css -> Els rTx 1 w' (fun k => True /\ k ≠ g) l css := fun {l} => by
    induction l with
    | nil => intro css h; cases css with | nil => trivial | cons _ _ => exact h
    | cons x l ih => intro css h; cases css with | nil => exact h | cons c css => exact ⟨h.1, ih h.2⟩
   exact .inr ⟨g, css, tail, h1, h2, hO.blk h4 (by simp; omega), h5, h6, h7, h9, e h8⟩
theorem szT_len (l : List (List UInt8)) : l.length <= szT l := by
 unfold szT
 induction l with
 | nil => exact Nat.zero_le _
 | cons s l ih => rw [List.map_cons, List.sum_cons, List.length_cons]; omega
theorem szT_mem {s : List UInt8} {l : List (List UInt8)} (h : s ∈ l) : s.length + 1 <= szT l := by
 unfold szT
 induction l with
 | nil => simp at h
 | cons x l ih =>
  rw [List.map_cons, List.sum_cons]
  rcases List.mem_cons.1 h with rfl | h
  · omega
  · have := ih h; omega
def szMs : List Mv -> Nat
 | [] => 0
 | m :: l => szM m + szMs l
def szB (b : Nb) : Nat := ((b.nm.length + b.ini.length) + (b.dft.length + 1)) + ((szAs b.en + szAs b.lv) + szMs b.mv)
mutual
def szN : Nd -> Nat
 | .mk b l => szB b + szNs l
def szNs : List Nd -> Nat
 | [] => 0
 | x :: l => szN x + szNs l
end
theorem szMs_mem {m : Mv} : ∀ {l : List Mv}, m ∈ l -> szM m <= szMs l
 | [], h => by simp at h
 | x :: l, h => by
  rw [szMs]
  rcases List.mem_cons.1 h with rfl | h
  · omega
  · have := szMs_mem h; omega
theorem szMs_len : ∀ (l : List Mv), l.length <= szMs l
 | [] => Nat.zero_le _
 | m :: l => by
  have := szMs_len l
  rw [szMs, List.length_cons]
  unfold szM
  omega
theorem szNs_mem {x : Nd} : ∀ {l : List Nd}, x ∈ l -> szN x <= szNs l
 | [], h => by simp at h
 | y :: l, h => by
  rw [szNs]
  rcases List.mem_cons.1 h with rfl | h
  · omega
  · have := szNs_mem h; omega
theorem szN_pos (x : Nd) : 1 <= szN x := by
 obtain ⟨b, l⟩ := x
 rw [szN]
 unfold szB
 omega
theorem szNs_len : ∀ (l : List Nd), l.length <= szNs l
 | [] => Nat.zero_le _
 | x :: l => by
  have := szNs_len l
  have := szN_pos x
  rw [szNs, List.length_cons]
  omega
theorem ndsN_mem {x : Nd} : ∀ {l : List Nd}, ndsN l -> x ∈ l -> ndN x
 | [], _, h => by simp at h
 | y :: l, hn, h => by
  rw [ndsN] at hn
  rcases List.mem_cons.1 h with rfl | h
  · exact hn.1
  · exact ndsN_mem hn.2 h
mutual
theorem nNd_sz : ∀ x : Nd, nNd x <= szN x
 | .mk b l => by
  rw [nNd, szN]
  have := nNds_sz l
  unfold szB
  omega
theorem nNds_sz : ∀ l : List Nd, nNds l <= szNs l
 | [] => by rw [nNds]; exact Nat.zero_le _
 | x :: l => by
  rw [nNds, szNs]
  exact Nat.add_le_add (nNd_sz x) (nNds_sz l)
end
def szVs : List Vr -> Nat
 | [] => 0
 | v :: l => (v.n.length + 1) + szVs l
theorem szVs_mem {v : Vr} : ∀ {l : List Vr}, v ∈ l -> v.n.length + 1 <= szVs l
 | [], h => by simp at h
 | x :: l, h => by
  rw [szVs]
  rcases List.mem_cons.1 h with rfl | h
  · omega
  · have := szVs_mem h; omega
end Go.Proofs.Ytddfmhccaapgjaa.Con
namespace Go.Proofs.Ytddfmhccaapgjaa.Con
open Go Go.RowKit Go.Kt Go.Kt.V Go.Proofs.Ytddfmhccaapgjaa.Vc
set_option linter.unusedSimpArgs false
set_option linter.unusedVariables false
set_option maxHeartbeats 800000
set_option maxRecDepth 100000
section
variable {w : World} {F : Nat -> Prop} {x : Ex} {cs : List Value}
theorem etextX_c (hx : rE false w F x cs) (hn : okN x) (hs : szX x <= 1759218604441) :
  Calls Try.prog 79 #[.agg cs.toArray] w fun e w' => e = .returned (.tuple #[.string (T (exX x)), .bool (exOk x)]) /\ Only [] w w' := by
 obtain ⟨d, h⟩ := hx
 have h := rXg_ex h
 refine (etext_r h (fun e => len_sz e x (by omega)) (hn d)).mono ?_
 rintro _ w' ⟨rfl, hO⟩
 rw [rightM, text_dp (rEx_dp h)]
 exact ⟨rfl, hO⟩
theorem rexprOk_c (hx : rE false w F x cs) (hn : okN x) (hs : szX x <= 1759218604441) :
  Calls Try.prog 77 #[.agg cs.toArray] w fun e w' => e = .returned (.bool (exOk x)) /\ Only [] w w' := by
 obtain ⟨sl, rfl⟩ := rE_cells hx
 refine ret (v60w x.k x.n (T x.s) x.op sl x.a (fun v w' => v = .bool (exOk x) /\ Only [] w w') w ?_)
 unfold v60v
 intro k0 w0 hk0 hk0' hO0
 refine (etextX_c ((rE_ok false).keep hx fun k _ hlt => hO0.block k hlt (by simp)) hn hs).mono ?_
 rintro _ w1 ⟨rfl, hO1⟩
 exact ⟨_, _, rfl, hO1.same (by simp; omega), rfl, hO0.tr0 hO1⟩
theorem rexpr_c (hx : rE false w F x cs) (hn : okN x) (hs : szX x <= 1759218604441) :
  Calls Try.prog 74 #[.agg cs.toArray] w fun e w' => e = .returned (.string (T (exX x))) /\ Only [] w w' := by
 obtain ⟨sl, rfl⟩ := rE_cells hx
 refine ret (v61w x.k x.n (T x.s) x.op sl x.a (fun v w' => v = .string (T (exX x)) /\ Only [] w w') w ?_)
 unfold v61v
 intro k0 w0 hk0 hk0' hO0
 refine (etextX_c ((rE_ok false).keep hx fun k _ hlt => hO0.block k hlt (by simp)) hn hs).mono ?_
 rintro _ w1 ⟨rfl, hO1⟩
 exact ⟨_, _, rfl, hO1.same (by simp; omega), rfl, hO0.tr0 hO1⟩
theorem rnone_c (hx : rE false w F x cs) :
  Calls Try.prog 78 #[.agg cs.toArray] w fun e w' => (∃ b : Bool, e = .returned (.bool b)) /\ Only [] w w' := by
 obtain ⟨sl, rfl⟩ := rE_cells hx
 refine (v63w x.k x.n (T x.s) x.op sl x.a (fun v w' => (∃ b : Bool, v = .bool b) /\ Only [] w w') w ?_).mono (by rintro _ w' ⟨v, rfl, ⟨b, rfl⟩, h⟩; exact ⟨⟨b, rfl⟩, h⟩)
 unfold v63v
 intro k0 w0 hk0 hk0' hO0
 exact ⟨⟨_, rfl⟩, hO0⟩
end
theorem _root_.Go.Kt.Cells.part {w : World} {p : Addr} {cs ds : List Value} (h : Cells w p cs) (n : Nat) (hd : ∀ j v, ds[j]? = some v -> cs[n + j]? = some v) : Cells w (p.add n) ds := fun j v hv => by
 rw [addr_add]
 exact h _ v (hd j v hv)
theorem one_part {cs : List Value} {n i : Nat} {v u : Value} (hi : [u][i]? = some v) (h : cs[n]? = some u) : cs[n + i]? = some v := by
 cases i with
 | zero =>
  rw [List.getElem?_cons_zero, Option.some.injEq] at hi
  subst hi
  exact h
 | succ i => simp at hi
theorem acv_part {k : Int} {n : List UInt8} {xc : List Value} {a : Int} {i : Nat} {v : Value} (hi : xc[i]? = some v) : (acv k n xc a)[2 + i]? = some v := by
 rw [Nat.add_comm]
 show (xc ++ [Value.int .i64 a])[i]? = some v
 rw [List.getElem?_append_left (List.getElem?_eq_some_iff.1 hi).1]
 exact hi
abbrev CntB (w : World) (b : Nat) (n m a : Int) : Prop := Blk w b 105 [.int .i64 n, .int .i64 m, .int .i64 a]
theorem only1 {b : Nat} {w w' : World} (h : Only [] w w') : Only [b] w w' := h.weaken (bs' := [b]) fun _ h => (by cases h)
theorem only11 {b : Nat} {w w' w'' : World} (h : Only [b] w w') (k : Only [b] w' w'') : Only [b] w w'' := h.trans k fun x hx => .inl hx
section
variable {w : World} {F : Nat -> Prop} {b : Nat} {n m a : Int}
theorem ractsOk_c {l : Sl} {acs : List Ac} (hc : CntB w b n m a) (hl : SlG false (rAc false) 9 113 w F l acs) (hF : ∀ k, F k -> k ≠ b) (hn : ∀ y, y ∈ acs -> acN y) (hs : szAs acs <= 8388608) :
  Calls Try.prog 71 #[.pointer (some ⟨b, 0, none⟩), l.v] w fun e w' => (∃ r : Bool, e = .returned (.bool r) /\ ∃ a' : Int, CntB w' b n m a') /\ Only [b] w w' := by
 refine (v57w ⟨b, 0, none⟩ l (fun v w' => (∃ r : Bool, v = .bool r /\ ∃ a' : Int, CntB w' b n m a') /\ Only [b] w w') w ?_).mono (by rintro _ w' ⟨v, rfl, ⟨r, rfl, h⟩, h'⟩; exact ⟨⟨r, rfl, h⟩, h'⟩)
 unfold v57v
 have hln := hl.1.len
 have hll := szAs_len acs
 have kp : ∀ {u : World}, Only [b] w u -> SliceF (rAc false) 9 u F l acs := fun hO => SliceF.only (rAc_ok false) (by decide) hl.1 hO fun k hk _ hm => hF k hk (by simpa using hm)
 refine ⟨fun kv i u => ∃ (j : Nat) (a' : Int), i = (j : Int) /\ kv + j = acs.length /\ j <= acs.length /\ CntB u b n m a' /\ Only [b] w u, acs.length, ⟨0, a, rfl, by omega, Nat.zero_le _, hc, Only.refl _ _⟩, ?_⟩
 rintro kv _ u ⟨j, a', rfl, hkv, hj, hB, hO⟩
 refine ⟨fun hcj => ?_, fun _ => ⟨⟨true, rfl, a', hB⟩, hO⟩⟩
 have hcj := of_decide_eq_true hcj
 have hjl : j < acs.length := by omega
 obtain ⟨y, hy⟩ : ∃ y, acs[j]? = some y := ⟨_, List.getElem?_eq_getElem hjl⟩
 have hym := List.mem_of_getElem? hy
 have hys := szAs_mem hym
 unfold szA at hys
 have at_ : ∀ {v : World}, Only [b] w v -> ∃ ad xs, SlAt l (j : Int) 9 ad /\ Cells v (ad.add 0) [.int .i64 y.k] /\ Cells v (ad.add 1) [.string (T y.n)] /\ Cells v (ad.add 2) (exv y.x.k y.x.n y.x.s y.x.op xs y.x.a) /\ rE false v F y.x (exv y.x.k y.x.n y.x.s y.x.op xs y.x.a) := fun {v} hv => by
  obtain ⟨ad, y', cs, q1, q2, q3, q4, q5, q6⟩ := (kp hv).get (Int.natCast_nonneg j) (by omega)
  rw [Int.toNat_natCast, hy] at q2
  injection q2 with q2
  subst q2
  obtain ⟨xc, rfl, hxe⟩ := q6
  obtain ⟨xs, rfl⟩ := rE_cells hxe
  exact ⟨ad, xs, q1, q5.part 0 fun i v hi => one_part hi rfl, q5.part 1 fun i v hi => one_part hi rfl, q5.part 2 fun i v hi => acv_part hi, hxe⟩
 refine ⟨a', Blk.at1 hB 2 rfl, b, 2, _, _, rfl, hB, by simp, fun w1 hO1 hB1 => ?_⟩
 have o1 := only11 hO hO1
 obtain ⟨ad, xs, g1, g2, g3, g4, g5⟩ := at_ o1
 refine ⟨ad, g1, _, g3, (rname_c w1 y.n (by omega)).mono ?_⟩
 rintro _ w2 ⟨rfl, hO2⟩
 have o2 := only11 o1 (only1 hO2)
 have hB2 := hO2.blk hB1 (by simp)
 obtain ⟨ad2, xs2, p1, p2, p3, p4, p5⟩ := at_ o2
 refine ⟨_, rfl, ad2, p1, _, _, _, _, _, _, p4, (rexprOk_c p5 (hn y hym) (by omega)).mono ?_⟩
 rintro _ w3 ⟨rfl, hO3⟩
 have o3 := only11 o2 (only1 hO3)
 have hB3 := hO3.blk hB2 (by simp)
 obtain ⟨ad3, xs3, q1, q2, q3, q4, q5⟩ := at_ o3
 have fin : ∀ {w4 : World}, Only [] w3 w4 -> ∀ b2 : Bool, ∃ p2 : Addr, SlAt l (j : Int) 9 p2 /\ ∃ i6 : Int, Cells w4 (p2.add 0) [.int .i64 i6] /\ ∃ p3 : Addr, ((decide (i6 < 1)) = false -> SlAt l (j : Int) 9 p3) /\ ∃ i7 : Int, ((decide (i6 < 1)) = false -> Cells w4 (p3.add 0) [.int .i64 i7]) /\
   (((((decide (i6 < 1)) || (decide (i7 > 3))) || (!nameM y.n)) || (!b2)) = true -> (∃ r : Bool, Value.bool false = .bool r /\ ∃ a' : Int, CntB w4 b n m a') /\ Only [b] w w4) /\
   (((((decide (i6 < 1)) || (decide (i7 > 3))) || (!nameM y.n)) || (!b2)) = false -> ∃ k5 : Nat, k5 < kv /\ ∃ (j' : Nat) (a' : Int), IntKind.wrap .i64 ((j : Int) + 1) = (j' : Int) /\ k5 + j' = acs.length /\ j' <= acs.length /\ CntB w4 b n m a' /\ Only [b] w w4) := fun {w4} h4 b2 => by
  have o4 := only11 o3 (only1 h4)
  have hB4 := h4.blk hB3 (by simp)
  obtain ⟨ad4, xs4, t1, t2, t3, t4, t5⟩ := at_ o4
  exact ⟨ad4, t1, y.k, t2, ad4, fun _ => t1, y.k, fun _ => t2, fun _ => ⟨⟨false, rfl, _, hB4⟩, o4⟩, fun _ => ⟨kv - 1, by omega, j + 1, _, by rw [wr' (by omega) (by omega)]; rfl, by omega, by omega, hB4, o4⟩⟩
 refine ⟨_, rfl, fun b2 w4 => Only [] w3 w4, fun b2 w4 h4 => fin h4 b2, ad3, q1, _, q2, fun _ => ⟨ad3, q1, _, _, _, _, _, _, q4, (rnone_c q5).mono ?_⟩, fun _ => Only.refl _ _⟩
 rintro _ w5 ⟨⟨b3, rfl⟩, hO5⟩
 exact ⟨_, rfl, hO5⟩
end
section
variable {w : World} {F : Nat -> Prop} {b : Nat} {n m a : Int}
theorem rmoveOk_c {x : Mv} {cs : List Value} (hc : CntB w b n m a) (hx : rMv false w F x cs) (hF : ∀ k, F k -> k ≠ b) (hn : mvN x) (hs : szM x <= 8388608) :
  Calls Try.prog 72 #[.pointer (some ⟨b, 0, none⟩), .agg cs.toArray] w fun e w' => (∃ r : Bool, e = .returned (.bool r) /\ ∃ m' a' : Int, CntB w' b n m' a') /\ Only [b] w w' := by
 obtain ⟨gc, asl, tg, rfl, hg, hac, htg⟩ := hx
 obtain ⟨gs, rfl⟩ := rE_cells hg
 unfold szM at hs
 have hbl := hc.lt
 refine (v58w ⟨b, 0, none⟩ x.k (T x.ev) x.wt x.gd x.g.k x.g.n (T x.g.s) x.g.op gs x.g.a asl tg x.a (fun v w' => (∃ r : Bool, v = .bool r /\ ∃ m' a' : Int, CntB w' b n m' a') /\ Only [b] w w') w ?_).mono (by rintro _ w' ⟨v, rfl, ⟨r, rfl, h⟩, h'⟩; exact ⟨⟨r, rfl, h⟩, h'⟩)
 unfold v58v
 intro k0 w0 hk0 hk0' hO0
 have z0 := hO0.size
 have hB0 := hO0.blk hc (by simp)
 have kG : ∀ {u : World}, Only [b] w u -> rE false u F x.g (exv x.g.k x.g.n x.g.s x.g.op gs x.g.a) := fun hO => (rE_ok false).keep hg fun k hk hlt => hO.block k hlt (by simpa using hF k hk)
 have kA : ∀ {u : World}, Only [b] w u -> SlG false (rAc false) 9 113 u F asl x.acts := fun hO => hac.keep (rAc_ok false) (by decide) fun k hk hlt => hO.block k hlt (by simpa using hF k hk)
 have kT : ∀ {u : World}, Only [b] w u -> SliceF rTx 1 u F tg x.tg := fun hO => SliceF.only rTx_ok (by decide) htg.1 hO fun k hk _ hm => hF k hk (by simpa using hm)
 have sm : ∀ {u u' : World}, w0.heap.size <= u.heap.size -> Only [b] u u' -> Same [k0] u u' := fun hz hO => hO.same (by simp; omega)
 refine ⟨m, Blk.at1 hB0 1 rfl, b, 1, _, _, rfl, hB0, by simp, by omega, fun w1 hO1 hB1 => ?_⟩
 have o1 : Only [b] w w1 := only11 (only1 hO0) hO1
 have z1 := hO1.size
 have hB1 : ∃ m' a', CntB w1 b n m' a' := ⟨_, _, hB1⟩
 refine ⟨fun _ u => Only [b] w u /\ w0.heap.size <= u.heap.size /\ ∃ m' a', CntB u b n m' a', fun b0 w2 ⟨o2, z2, m2, a2, hB2⟩ => ?_, fun _ => (rname_c w1 x.ev (by omega)).mono ?_, fun _ => ⟨o1, by omega, hB1⟩⟩
 · refine (rnone_c (kG o2)).mono ?_
   rintro _ w3 ⟨⟨b1, rfl⟩, hO3⟩
   have o3 := only11 o2 (only1 hO3)
   have z3 := hO3.size
   have hB3 := hO3.blk hB2 (by simp)
   refine ⟨_, rfl, sm z2 (only1 hO3), fun _ u => Only [b] w u /\ w0.heap.size <= u.heap.size /\ ∃ m' a', CntB u b n m' a', fun b2 w4 ⟨o4, z4, m4, a4, hB4⟩ => ?_, fun _ => (rexprOk_c (kG o3) hn.1 (by omega)).mono ?_, fun _ => ⟨o3, by omega, _, _, hB3⟩⟩
   · refine (ractsOk_c hB4 (kA o4) hF hn.2 (by omega)).mono ?_
     rintro _ w5 ⟨⟨b3, rfl, a5, hB5⟩, hO5⟩
     have o5 := only11 o4 hO5
     have z5 := hO5.size
     have htl := (kT o5).len
     have htb := (kT o5).big
     have htc := (kT o5).cap
     refine ⟨_, rfl, sm z4 hO5, fun kv i u => ∃ j : Nat, i = (j : Int) /\ kv + j = x.tg.length /\ j <= x.tg.length /\ Only [] w5 u, x.tg.length, ⟨0, rfl, by omega, Nat.zero_le _, Only.refl _ _⟩, ?_⟩
     rintro kv _ w6 ⟨j, rfl, hkv, hj, hO6⟩
     have z6 := hO6.size
     have o6 := only11 o5 (only1 hO6)
     refine ⟨fun hcj => ?_, fun _ => ⟨⟨_, rfl, _, _, hO6.blk hB5 (by simp)⟩, o6⟩⟩
     have hcj := of_decide_eq_true hcj
     obtain ⟨ad, s, cs, g1, g2, g3, g4, g5, g6⟩ := (kT o6).get (Int.natCast_nonneg j) (by omega)
     rw [Int.toNat_natCast] at g2
     have g6 : cs = [.string (T s)] := g6
     subst g6
     have hsl : s.length <= szT x.tg := by
      have := szT_mem (List.mem_of_getElem? g2)
      omega
     refine ⟨ad, g1, _, g5, (rname_c w6 s (by omega)).mono ?_⟩
     rintro _ w7 ⟨rfl, hO7⟩
     refine ⟨_, rfl, sm (by omega) (only1 hO7), fun _ => ⟨⟨false, rfl, _, _, (hO6.tr0 hO7).blk hB5 (by simp)⟩, only11 o6 (only1 hO7)⟩, fun _ => ⟨kv - 1, by omega, j + 1, by rw [wr' (by omega) (by omega)]; rfl, by omega, by omega, hO6.tr0 hO7⟩⟩
   · rintro _ w8 ⟨rfl, hO8⟩
     have z8 := hO8.size
     exact ⟨_, rfl, sm (by omega) (only1 hO8), only11 o3 (only1 hO8), by omega, _, _, hO8.blk hB3 (by simp)⟩
 · rintro _ w9 ⟨rfl, hO9⟩
   have z9 := hO9.size
   obtain ⟨m1, a1, hB1⟩ := hB1
   exact ⟨_, rfl, sm (by omega) (only1 hO9), only11 o1 (only1 hO9), by omega, _, _, hO9.blk hB1 (by simp)⟩
end
end Go.Proofs.Ytddfmhccaapgjaa.Con
namespace Go.Proofs.Ytddfmhccaapgjaa.Con
set_option linter.unusedSimpArgs false
set_option linter.unusedVariables false
structure Spo where
 k : Int
 nm : List UInt8
 pa : Int
 dp : Int
 en : Int
mutual
def flN (a : Nat) (pa dp : Int) : Nd -> List Spo
 | .mk b l => ⟨b.k, b.nm, pa, dp, ((a + 1 + nNds l : Nat) : Int)⟩ :: flL (a + 1) a (dp + 1) l
def flL (a : Nat) (pa dp : Int) : List Nd -> List Spo
 | [] => []
 | x :: l => flN a pa dp x ++ flL (a + nNd x) pa dp l
end
mutual
theorem flN_len (a : Nat) (pa dp : Int) : ∀ x, (flN a pa dp x).length = nNd x
 | .mk b l => by rw [flN, nNd, List.length_cons, flL_len]
theorem flL_len (a : Nat) (pa dp : Int) : ∀ l, (flL a pa dp l).length = nNds l
 | [] => by rw [flL, nNds]; rfl
 | x :: l => by rw [flL, nNds, List.length_append, flN_len, flL_len]
end
theorem nNds_app : ∀ l m : List Nd, nNds (l ++ m) = nNds l + nNds m
 | [], m => by rw [nNds, List.nil_append, Nat.zero_add]
 | x :: l, m => by rw [List.cons_append, nNds, nNds, nNds_app l m, Nat.add_assoc]
theorem flL_app (pa dp : Int) : ∀ (l m : List Nd) (a : Nat), flL a pa dp (l ++ m) = flL a pa dp l ++ flL (a + nNds l) pa dp m
 | [], m, a => by rw [List.nil_append, flL, List.nil_append, nNds, Nat.add_zero]
 | x :: l, m, a => by rw [List.cons_append, flL, flL, flL_app pa dp l m, nNds, List.append_assoc, Nat.add_assoc]
theorem nNd_pos : ∀ x, 1 <= nNd x
 | .mk b l => by rw [nNd]; omega
theorem nNds_mem {x : Nd} : ∀ {l : List Nd}, x ∈ l -> nNd x <= nNds l
 | [], h => by simp at h
 | y :: l, h => by
  rw [nNds]
  rcases List.mem_cons.1 h with rfl | h
  · omega
  · have := nNds_mem h; omega
theorem nNds_take {y : Nd} : ∀ {l : List Nd} {j : Nat}, l[j]? = some y -> nNds (l.take j) + nNd y <= nNds l
 | [], _, h => by simp at h
 | x :: l, 0, h => by
  rw [List.getElem?_cons_zero, Option.some.injEq] at h
  subst h
  rw [List.take_zero, nNds, nNds]
  omega
 | x :: l, j + 1, h => by
  have := nNds_take (l := l) (j := j) (by rwa [List.getElem?_cons_succ] at h)
  rw [List.take_succ_cons, nNds, nNds]
  omega
theorem nNds_len : ∀ l : List Nd, l.length <= nNds l
 | [] => Nat.zero_le _
 | a :: l => by
  have := nNds_len l
  have := nNd_pos a
  rw [nNds, List.length_cons]
  omega
def PaIn (L : List Spo) (a i : Nat) (s : Spo) : Prop := ∃ p t, p < i /\ L[p]? = some t /\ s.pa = ((a + p : Nat) : Int) /\ s.dp = t.dp + 1 /\ ((a + i : Nat) : Int) < t.en /\ s.en <= t.en /\ ∀ j u, p < j -> j < i -> L[j]? = some u -> u.en <= ((a + i : Nat) : Int)
theorem PaIn.app {L M : List Spo} {a i : Nat} {s : Spo} (h : PaIn L a i s) (hi : i < L.length) : PaIn (L ++ M) a i s := by
 obtain ⟨p, t, h1, h2, h3, h4, h5, h6, h7⟩ := h
 refine ⟨p, t, h1, ?_, h3, h4, h5, h6, fun j u g1 g2 g3 => h7 j u g1 g2 ?_⟩
 · rw [List.getElem?_append_left (by omega)]; exact h2
 · rwa [List.getElem?_append_left (by omega)] at g3
theorem PaIn.shift {L M : List Spo} {a i : Nat} {s : Spo} (h : PaIn M (a + L.length) i s) : PaIn (L ++ M) a (L.length + i) s := by
 obtain ⟨p, t, h1, h2, h3, h4, h5, h6, h7⟩ := h
 refine ⟨L.length + p, t, by omega, ?_, by rw [h3]; omega, h4, by omega, h6, fun j u g1 g2 g3 => ?_⟩
 · rw [List.getElem?_append_right (by omega), Nat.add_sub_cancel_left]; exact h2
 · rw [List.getElem?_append_right (by omega)] at g3
   have := h7 (j - L.length) u (by omega) (by omega) g3
   omega
mutual
theorem flN_in (a : Nat) (pa dp : Int) : ∀ (x : Nd) (i : Nat) (s : Spo), (flN a pa dp x)[i]? = some s -> ((a + i : Nat) : Int) < s.en /\ s.en <= ((a + nNd x : Nat) : Int) /\ (i = 0 -> s.pa = pa /\ s.dp = dp /\ s.en = ((a + nNd x : Nat) : Int)) /\ (0 < i -> PaIn (flN a pa dp x) a i s)
 | .mk b l, i, s, h => by
  rw [flN] at h ⊢
  rw [nNd]
  cases i with
  | zero =>
   rw [List.getElem?_cons_zero, Option.some.injEq] at h
   subst h
   dsimp only
   exact ⟨by omega, by omega, fun _ => ⟨rfl, rfl, by omega⟩, fun h => by omega⟩
  | succ i =>
   rw [List.getElem?_cons_succ] at h
   obtain ⟨h1, h2, h3⟩ := flL_in (a + 1) a (dp + 1) l i s h
   refine ⟨by omega, by omega, fun h => by omega, fun _ => ?_⟩
   rcases h3 with ⟨g1, g2, g3⟩ | g
   · refine ⟨0, _, by omega, List.getElem?_cons_zero, by rw [g1, Nat.add_zero], g2, by dsimp only; omega, by dsimp only; omega, fun j u k1 k2 k3 => ?_⟩
     cases j with
     | zero => omega
     | succ j =>
      rw [List.getElem?_cons_succ] at k3
      have := g3 j u (by omega) k3
      omega
   · have := PaIn.shift (L := [⟨b.k, b.nm, pa, dp, ((a + 1 + nNds l : Nat) : Int)⟩]) (M := flL (a + 1) a (dp + 1) l) (a := a) (i := i) (s := s) g
     rw [List.length_singleton, Nat.add_comm 1 i] at this
     exact this
theorem flL_in (a : Nat) (pa dp : Int) : ∀ (l : List Nd) (i : Nat) (s : Spo), (flL a pa dp l)[i]? = some s -> ((a + i : Nat) : Int) < s.en /\ s.en <= ((a + nNds l : Nat) : Int) /\
  ((s.pa = pa /\ s.dp = dp /\ ∀ j u, j < i -> (flL a pa dp l)[j]? = some u -> u.en <= ((a + i : Nat) : Int)) ∨ PaIn (flL a pa dp l) a i s)
 | [], i, s, h => by rw [flL] at h; simp at h
 | x :: l, i, s, h => by
  rw [flL] at h ⊢
  rw [nNds]
  have hl := flN_len a pa dp x
  by_cases hi : i < nNd x
  · rw [List.getElem?_append_left (by omega)] at h
    obtain ⟨h1, h2, h3, h4⟩ := flN_in a pa dp x i s h
    refine ⟨h1, by omega, ?_⟩
    by_cases h0 : i = 0
    · obtain ⟨g1, g2, g3⟩ := h3 h0
      exact .inl ⟨g1, g2, fun j u hj => by omega⟩
    · exact .inr ((h4 (by omega)).app (by omega))
  · rw [List.getElem?_append_right (by omega), hl] at h
    obtain ⟨h1, h2, h3⟩ := flL_in (a + nNd x) pa dp l (i - nNd x) s h
    refine ⟨by omega, by omega, ?_⟩
    rcases h3 with ⟨g1, g2, g3⟩ | g
    · refine .inl ⟨g1, g2, fun j u hj hu => ?_⟩
      by_cases hj' : j < nNd x
      · rw [List.getElem?_append_left (by omega)] at hu
        have := (flN_in a pa dp x j u hu).2.1
        omega
      · rw [List.getElem?_append_right (by omega), hl] at hu
        have := g3 (j - nNd x) u (by omega) hu
        omega
    · refine .inr ?_
      rw [<- hl] at g
      have := PaIn.shift (L := flN a pa dp x) g
      rw [hl] at this
      rwa [show nNd x + (i - nNd x) = i by omega] at this
end
structure Fo (xs : List Spo) : Prop where
 ne : 0 < xs.length
 rt : ∀ s : Spo, xs[0]? = some s -> s.pa = -1 /\ s.dp = 0 /\ s.en = (xs.length : Int)
 up : ∀ (i : Nat) (s : Spo), xs[i]? = some s -> (i : Int) < s.en /\ s.en <= (xs.length : Int)
 pa : ∀ (i : Nat) (s : Spo), 0 < i -> xs[i]? = some s -> PaIn xs 0 i s
def flatC (c : Ch) : List Spo := flN 0 (-1) 0 c.root
theorem fo_flat (c : Ch) : Fo (flatC c) := by
 unfold flatC
 have hl := flN_len 0 (-1) 0 c.root
 have h := flN_in 0 (-1) 0 c.root
 refine ⟨by have := nNd_pos c.root; omega, fun s hs => ?_, fun i s hs => ?_, fun i s hi hs => (h i s hs).2.2.2 hi⟩
 · obtain ⟨h1, h2, h3⟩ := (h 0 s hs).2.2.1 rfl
   exact ⟨h1, h2, by rw [h3, hl]; omega⟩
 · obtain ⟨h1, h2, _⟩ := h i s hs
   exact ⟨by omega, by omega⟩
section
variable {xs : List Spo} (F : Fo xs) {i j k p : Nat} {s t u : Spo}
include F
theorem Fo.lam : ∀ (k : Nat) {i : Nat} {s t : Spo}, xs[i]? = some s -> xs[k]? = some t -> i < k -> (k : Int) < s.en -> t.en <= s.en
 | k, i, s, t, hi, hk, hlt, hs => by
  obtain ⟨p, v, h1, h2, h3, h4, h5, h6, h7⟩ := F.pa k t (by omega) hk
  by_cases hp : p < i
  · have := h7 i s hp hlt hi
    omega
  · by_cases he : p = i
    · subst he
      rw [hi, Option.some.injEq] at h2
      subst h2
      exact h6
    · have := Fo.lam p hi h2 (by omega) (by omega)
      omega
theorem Fo.par (hk : xs[k]? = some t) (h0 : 0 < k) : ∃ (p : Nat) (s : Spo), p < k /\ t.pa = (p : Int) /\ xs[p]? = some s /\ t.dp = s.dp + 1 /\ (k : Int) < s.en /\ ∀ (i : Nat) (u : Spo), xs[i]? = some u -> i < k -> (k : Int) < u.en -> i <= p := by
 obtain ⟨p, v, h1, h2, h3, h4, h5, h6, h7⟩ := F.pa k t h0 hk
 refine ⟨p, v, h1, by rw [h3]; omega, h2, h4, by omega, fun i u hu hi hk' => ?_⟩
 by_cases hp : p < i
 · have := h7 i u hp hi hu; omega
 · omega
omit F in
theorem get_lt {xs : List Spo} {i : Nat} {s : Spo} (h : xs[i]? = some s) : i < xs.length := (List.getElem?_eq_some_iff.1 h).1
omit F in
theorem get_at {xs : List Spo} {i : Nat} (h : i < xs.length) : ∃ s, xs[i]? = some s := ⟨_, List.getElem?_eq_getElem h⟩
end
def Cov (xs : List Spo) (b a : Nat) : Prop := ∃ s, xs[b]? = some s /\ b <= a /\ (a : Int) < s.en
def Top (xs : List Spo) (l : List Int) (r : Int) : Prop := ∃ m : Nat, r = m /\ (∀ n : Int, n ∈ l -> ∃ k : Nat, n = k /\ Cov xs m k) /\ ∀ j : Nat, (∀ n : Int, n ∈ l -> ∃ k : Nat, n = k /\ Cov xs j k) -> j <= m
def Has (xs : List Spo) (n : Int) : Prop := 0 <= n /\ n < xs.length
def Mt (xs : List Spo) (l : List Int) (r : Int) : Prop := ((l = [] ∨ ∃ n, n ∈ l /\ ¬ Has xs n) /\ r = -1) ∨ ((l ≠ [] /\ ∀ n, n ∈ l -> Has xs n) /\ Top xs l r)
theorem Mt.bad {xs : List Spo} {l : List Int} {r : Int} (h : Mt xs l r) (hb : l = [] ∨ ∃ n, n ∈ l /\ ¬ Has xs n) : r = -1 := by
 rcases h with ⟨_, h⟩ | ⟨⟨h1, h2⟩, _⟩
 · exact h
 · rcases hb with hb | ⟨n, hn, hh⟩
   · exact absurd hb h1
   · exact absurd (h2 n hn) hh
theorem Mt.good {xs : List Spo} {l : List Int} {r : Int} (h : Mt xs l r) (h1 : l ≠ []) (h2 : ∀ n, n ∈ l -> Has xs n) : Top xs l r := by
 rcases h with ⟨hb | ⟨n, hn, hh⟩, _⟩ | ⟨_, h⟩
 · exact absurd hb h1
 · exact absurd (h2 n hn) hh
 · exact h
theorem Top.uniq {xs : List Spo} {l m : List Int} {r q : Int} (h : Top xs l r) (g : Top xs m q) (he : ∀ n, n ∈ l ↔ n ∈ m) : r = q := by
 obtain ⟨a, rfl, h1, h2⟩ := h
 obtain ⟨b, rfl, g1, g2⟩ := g
 have e1 := g2 a fun n hn => h1 n ((he n).2 hn)
 have e2 := h2 b fun n hn => g1 n ((he n).1 hn)
 omega
theorem Mt.uniq {xs : List Spo} {l m : List Int} {r q : Int} (h : Mt xs l r) (g : Mt xs m q) (he : ∀ n, n ∈ l ↔ n ∈ m) : r = q := by
 rcases h with ⟨hb, rfl⟩ | ⟨⟨h1, h2⟩, h3⟩
 · refine (g.bad ?_).symm
   rcases hb with rfl | ⟨n, hn, hh⟩
   · exact .inl (List.eq_nil_iff_forall_not_mem.2 fun n hn => by simpa using (he n).2 hn)
   · exact .inr ⟨n, (he n).1 hn, hh⟩
 · refine h3.uniq (g.good (fun e => ?_) fun n hn => h2 n ((he n).2 hn)) he
   subst e
   exact h1 (List.eq_nil_iff_forall_not_mem.2 fun n hn => by simpa using (he n).1 hn)
theorem Mt.neg {xs : List Spo} {l : List Int} {r : Int} (h : Mt xs l r) : r < 0 ↔ (l = [] ∨ ∃ n, n ∈ l /\ ¬ Has xs n) := by
 refine ⟨fun hr => ?_, fun hb => by rw [h.bad hb]; omega⟩
 rcases h with ⟨hb, _⟩ | ⟨_, m, rfl, _⟩
 · exact hb
 · omega
def kidsOf (xs : List Spo) (i n : Nat) : List Int := ((List.range n).filter fun k => decide ((xs[k]?).map (fun s : Spo => s.pa) = some (i : Int))).map fun k : Nat => (k : Int)
theorem kidsOf_succ (xs : List Spo) (i n : Nat) : kidsOf xs i (n + 1) = kidsOf xs i n ++ if (xs[n]?).map (fun s : Spo => s.pa) = some (i : Int) then [(n : Int)] else [] := by
 unfold kidsOf
 rw [List.range_succ, List.filter_append, List.map_append]
 by_cases h : (xs[n]?).map (fun s : Spo => s.pa) = some (i : Int)
 · rw [if_pos h, List.filter_cons_of_pos (by simpa using h)]; rfl
 · rw [if_neg h, List.filter_cons_of_neg (by simpa using h)]; rfl
theorem kidsOf_skip {xs : List Spo} {i : Nat} : ∀ (d n : Nat), (∀ k, n <= k -> k < n + d -> (xs[k]?).map (fun s : Spo => s.pa) ≠ some (i : Int)) -> kidsOf xs i (n + d) = kidsOf xs i n
 | 0, n, _ => rfl
 | d + 1, n, h => by
  rw [<- Nat.add_assoc, kidsOf_succ, if_neg (h (n + d) (by omega) (by omega)), List.append_nil, kidsOf_skip d n fun k h1 h2 => h k h1 (by omega)]
section
variable {xs : List Spo} (F : Fo xs) {i k : Nat} {s t : Spo}
include F
theorem Fo.pa_lt (hk : xs[k]? = some t) : t.pa < k := by
 by_cases h0 : 0 < k
 · obtain ⟨p, s, h1, h2, _⟩ := F.par hk h0; omega
 · have : k = 0 := by omega
   subst this
   rw [(F.rt t hk).1]; omega
theorem Fo.kid0 (hi : xs[i]? = some s) : kidsOf xs i (i + 1) = [] := by
 have : ∀ n, n <= i + 1 -> kidsOf xs i n = [] := by
  intro n
  induction n with
  | zero => intro _; rfl
  | succ n ih =>
   intro h
   rw [kidsOf_succ, ih (by omega), if_neg, List.append_nil]
   intro e
   cases hx : xs[n]? with
   | none => rw [hx] at e; cases e
   | some u =>
    rw [hx, Option.map_some, Option.some.injEq] at e
    have := F.pa_lt hx
    omega
 exact this _ (Nat.le_refl _)
theorem Fo.kid_pa (hi : xs[i]? = some s) (hk : xs[k]? = some t) (hik : i < k) (hs : (k : Int) < s.en) (hb : ∀ (j : Nat) u, i < j -> j < k -> xs[j]? = some u -> u.en <= (k : Int)) : t.pa = (i : Int) := by
 obtain ⟨p, v, h1, h2, h3, h4, h5, h6⟩ := F.par hk (by omega)
 have e1 := h6 i s hi hik hs
 by_cases he : p = i
 · rw [h2, he]
 · have := hb p v (by omega) h1 h3; omega
theorem Fo.kid_next (hk : xs[k]? = some t) {n : Nat} (hn : t.en = n) (hb : ∀ (j : Nat) u, i < j -> j < k -> xs[j]? = some u -> u.en <= (k : Int)) : ∀ (j : Nat) u, i < j -> j < n -> xs[j]? = some u -> u.en <= (n : Int) := by
 intro j u h1 h2 h3
 have hkn := (F.up k t hk).1
 by_cases e : j < k
 · have := hb j u h1 e h3; omega
 · by_cases e' : j = k
   · subst e'
     rw [hk, Option.some.injEq] at h3
     subst h3
     omega
   · have := F.lam j hk h3 (by omega) (by omega); omega
theorem Fo.kid_step (hi : xs[i]? = some s) (hk : xs[k]? = some t) (hik : i < k) (hs : (k : Int) < s.en) {n : Nat} (hn : t.en = n) (hb : ∀ (j : Nat) u, i < j -> j < k -> xs[j]? = some u -> u.en <= (k : Int)) : kidsOf xs i n = kidsOf xs i k ++ [(k : Int)] := by
 have hkn := (F.up k t hk).1
 have := kidsOf_skip (xs := xs) (i := i) (n - (k + 1)) (k + 1) fun j h1 h2 e => by
  cases hx : xs[j]? with
  | none => rw [hx] at e; cases e
  | some u =>
   rw [hx, Option.map_some, Option.some.injEq] at e
   obtain ⟨p, v, g1, g2, g3, g4, g5, g6⟩ := F.par hx (by omega)
   have := g6 k t hk (by omega) (by omega)
   omega
 rw [show k + 1 + (n - (k + 1)) = n by omega, kidsOf_succ, if_pos (by rw [hk, Option.map_some, F.kid_pa hi hk hik hs hb])] at this
 exact this
theorem Fo.kid_end (hi : xs[i]? = some s) {n : Nat} (hn : s.en = n) : kidsOf xs i xs.length = kidsOf xs i n := by
 have hu := F.up i s hi
 have := kidsOf_skip (xs := xs) (i := i) (xs.length - n) n fun j h1 h2 e => by
  cases hx : xs[j]? with
  | none => rw [hx] at e; cases e
  | some u =>
   rw [hx, Option.map_some, Option.some.injEq] at e
   obtain ⟨p, v, g1, g2, g3, g4, g5, g6⟩ := F.par hx (by omega)
   have : p = i := by omega
   subst this
   rw [hi, Option.some.injEq] at g3
   subst g3
   omega
 rw [show n + (xs.length - n) = xs.length by omega] at this
 exact this
end
theorem kidsOf_rise (xs : List Spo) (i : Nat) : ∀ n, List.Pairwise (· < ·) (kidsOf xs i n) /\ ∀ k, k ∈ kidsOf xs i n -> k < (n : Int)
 | 0 => ⟨List.Pairwise.nil, fun k h => by simp [kidsOf] at h⟩
 | n + 1 => by
  obtain ⟨h1, h2⟩ := kidsOf_rise xs i n
  rw [kidsOf_succ]
  split
  · refine ⟨List.pairwise_append.2 ⟨h1, List.pairwise_singleton _ _, fun a ha b hb => ?_⟩, fun k hk => ?_⟩
    · simp only [List.mem_singleton] at hb
      subst hb
      exact h2 a ha
    · rcases List.mem_append.1 hk with hk | hk
      · have := h2 k hk; omega
      · simp only [List.mem_singleton] at hk
        subst hk
        omega
  · rw [List.append_nil]
    exact ⟨h1, fun k hk => by have := h2 k hk; omega⟩
end Go.Proofs.Ytddfmhccaapgjaa.Con
namespace Go.Proofs.Ytddfmhccaapgjaa.Con
open Go Go.RowKit Go.Kt Go.Kt.V Go.Proofs.Ytddfmhccaapgjaa.Vc
set_option linter.unusedSimpArgs false
set_option linter.unusedVariables false
set_option maxHeartbeats 800000
set_option maxRecDepth 100000
mutual
def kdN : Nd -> Prop
 | .mk b ks => (1 <= b.k /\ b.k <= 4) /\ kdNs ks
def kdNs : List Nd -> Prop
 | [] => True
 | x :: l => kdN x /\ kdNs l
end
theorem kdNs_app : ∀ l m : List Nd, kdNs (l ++ m) ↔ kdNs l /\ kdNs m
 | [], m => by rw [List.nil_append, kdNs]; simp
 | x :: l, m => by rw [List.cons_append, kdNs, kdNs, kdNs_app l m, and_assoc]
theorem rnodeOk_c {F : Nat -> Prop} {b : Nat} (hF : ∀ k, F k -> k ≠ b) : ∀ (D : Nat) {w : World} {n m a deep : Int} {x : Nd} {cs : List Value}, CntB w b n m a -> rNd false D w F x cs -> ndN x -> szN x <= 8388608 -> 0 <= n -> n <= 64 -> 0 <= deep -> deep <= 100 ->
  Calls Try.prog 59 #[.pointer (some ⟨b, 0, none⟩), .agg cs.toArray, .int .i64 deep] w fun e w' => (∃ r : Bool, e = .returned (.bool r) /\ ∃ n' m' a' : Int, CntB w' b n' m' a' /\ (r = true -> (n' = n + nNd x /\ n' <= 64) /\ kdN x)) /\ Only [b] w w'
 | 0, _, _, _, _, _, _, _, _, h, _, _, _, _, _, _ => h.elim
 | D + 1, w, n, m, a, deep, .mk bb ks, cs, hc, ⟨en, lv, mv, kids, hcs, hnb, hk0⟩, hn, hs, hn0, hn64, hd0, hd1 => by
  dsimp only [Nd.kids, Nd.b] at hcs hnb hk0
  subst hcs
  have hk := hk0.1
  rw [ndN] at hn
  obtain ⟨hbn, hkn⟩ := hn
  obtain ⟨hb1, hb2, hb3⟩ := hbn
  obtain ⟨he, hl, hmv⟩ := hnb
  rw [szN] at hs
  unfold szB at hs
  have hbl := hc.lt
  refine (v59w ⟨b, 0, none⟩ bb.k (T bb.nm) (T bb.ini) (T bb.dft) en lv mv kids bb.a deep (fun v w' => (∃ r : Bool, v = .bool r /\ ∃ n' m' a' : Int, CntB w' b n' m' a' /\ (r = true -> (n' = n + nNd (.mk bb ks) /\ n' <= 64) /\ kdN (.mk bb ks))) /\ Only [b] w w') w ?_).mono (by rintro _ w' ⟨v, rfl, ⟨r, rfl, h⟩, h'⟩; exact ⟨⟨r, rfl, h⟩, h'⟩)
  unfold v59v
  rw [nNd]
  intro k0 w0 hk0 hk0' hO0
  have z0 := hO0.size
  have hB0 := hO0.blk hc (by simp)
  have sm : ∀ {u u' : World}, w0.heap.size <= u.heap.size -> Only [b] u u' -> Same [k0] u u' := fun hz hO => hO.same (by simp; omega)
  have bad : ∀ {u : World} {n' m' a' : Int}, Only [b] w u -> CntB u b n' m' a' -> (∃ r : Bool, Value.bool false = .bool r /\ ∃ n' m' a' : Int, CntB u b n' m' a' /\ (r = true -> (n' = n + (nNds ks + 1 : Nat) /\ n' <= 64) /\ kdN (.mk bb ks))) /\ Only [b] w u := fun hO hB => ⟨⟨false, rfl, _, _, _, hB, fun h => by cases h⟩, hO⟩
  have kA : ∀ {u : World} {s : Sl} {l : List Ac}, SlG false (rAc false) 9 113 w F s l -> Only [b] w u -> SlG false (rAc false) 9 113 u F s l := fun h hO => h.keep (rAc_ok false) (by decide) fun k hk hlt => hO.block k hlt (by simpa using hF k hk)
  refine ⟨n, Blk.at1 hB0 0 rfl, b, 0, _, _, rfl, hB0, by simp, by omega, fun w1 hO1 hB1 => ?_⟩
  have o1 : Only [b] w w1 := only11 (only1 hO0) hO1
  have z1 := hO1.size
  rw [wr' (by omega) (by omega)] at hB1
  have hB1 : CntB w1 b (n + 1) m a := hB1
  refine (rname_c w1 bb.nm (by omega)).mono ?_
  rintro _ w2 ⟨rfl, hO2⟩
  have o2 := only11 o1 (only1 hO2)
  have z2 := hO2.size
  have hB2 : CntB w2 b (n + 1) m a := hO2.blk hB1 (by simp)
  refine ⟨_, rfl, sm (by omega) (only1 hO2), n + 1, fun _ => Blk.at1 hB2 0 rfl, fun _ => bad o2 hB2, fun hcond => ?_⟩
  simp only [Bool.or_eq_false_iff] at hcond
  have h64 : n + 1 <= 64 := by have := of_decide_eq_false hcond.2; omega
  have hdp : deep < 12 := by have := of_decide_eq_false hcond.1.2; omega
  have hkl := hk.len
  refine ⟨fun hh => (rname_c w2 bb.dft (by omega)).mono ?_, fun hh => ⟨fun _ u => Only [b] w u /\ w0.heap.size <= u.heap.size /\ CntB u b (n + 1) m a, fun b2 w4 ⟨o4, z4, hB4⟩ => ?_, fun _ => (rname_c w2 bb.ini (by omega)).mono ?_, fun _ => ⟨o2, by omega, hB2⟩⟩⟩
  · rintro _ w3 ⟨rfl, hO3⟩
    refine ⟨_, rfl, sm (by omega) (only1 hO3), ⟨_, rfl, _, _, _, hO3.blk hB2 (by simp), fun hr => ?_⟩, only11 o2 (only1 hO3)⟩
    rw [Bool.and_eq_true] at hr
    have h0 : (kids.n : Int) = 0 := by simpa using hr.2
    have : ks = [] := List.eq_nil_of_length_eq_zero (by omega)
    subst this
    rw [nNds, kdN, kdNs]
    refine ⟨⟨by omega, h64⟩, ?_, trivial⟩
    rw [Bool.or_eq_true, beq_iff_eq, beq_iff_eq] at hh
    omega
  · refine (ractsOk_c hB4 (kA he o4) hF hb1 (by omega)).mono ?_
    rintro _ w5 ⟨⟨b3, rfl, a5, hB5⟩, hO5⟩
    have o5 := only11 o4 hO5
    have z5 := hO5.size
    refine ⟨_, rfl, sm z4 hO5, (ractsOk_c hB5 (kA hl o5) hF hb2 (by omega)).mono ?_⟩
    rintro _ w6 ⟨⟨b4, rfl, a6, hB6⟩, hO6⟩
    have o6 := only11 o5 hO6
    have z6 := hO6.size
    have kM : ∀ {u : World}, Only [b] w u -> SliceF (rMv false) 13 u F mv bb.mv := fun hO => SliceF.only (rMv_ok false) (by decide) hmv.1 hO fun k hk _ hm => hF k hk (by simpa using hm)
    have kK : ∀ {u : World}, Only [b] w u -> SliceF (rNd false D) 9 u F kids ks := fun hO => SliceF.only (rNd_ok false D) (by decide) hk hO fun k hk _ hm => hF k hk (by simpa using hm)
    have hml := hmv.1.len
    have hmm := szMs_len bb.mv
    refine ⟨_, rfl, sm (by omega) hO6, fun _ => bad o6 hB6, fun hkd => ⟨fun kv i u => ∃ (j : Nat) (m' a' : Int), i = (j : Int) /\ kv + j = bb.mv.length /\ j <= bb.mv.length /\ Only [b] w u /\ w0.heap.size <= u.heap.size /\ CntB u b (n + 1) m' a', bb.mv.length, ⟨0, _, _, rfl, by omega, Nat.zero_le _, o6, by omega, hB6⟩, ?_⟩⟩
    have hkd : 1 <= bb.k /\ bb.k <= 4 := by
     simp only [Bool.or_eq_false_iff, Bool.and_eq_false_iff, bne_eq_false_iff_eq] at hkd
     omega
    rintro kv _ w7 ⟨j, m7, a7, rfl, hkv, hj, o7, z7, hB7⟩
    refine ⟨fun hcj => ?_, fun _ => ⟨fun kv i u => ∃ (j : Nat) (m' a' : Int), i = (j : Int) /\ kv + j = ks.length /\ j <= ks.length /\ Only [b] w u /\ w0.heap.size <= u.heap.size /\ CntB u b (n + 1 + nNds (ks.take j)) m' a' /\ n + 1 + nNds (ks.take j) <= 64 /\ kdNs (ks.take j), ks.length, ⟨0, _, _, rfl, by omega, Nat.zero_le _, o7, z7, by rw [List.take_zero, nNds]; simpa using hB7, by rw [List.take_zero, nNds]; omega, by rw [List.take_zero, kdNs]; trivial⟩, ?_⟩⟩
    · have hcj := of_decide_eq_true hcj
      obtain ⟨ad, y, cs, g1, g2, g3, g4, g5, g6⟩ := (kM o7).get (Int.natCast_nonneg j) (by omega)
      rw [Int.toNat_natCast] at g2
      have hym := List.mem_of_getElem? g2
      have hys := szMs_mem hym
      have g6' := g6
      obtain ⟨gc, asl, tg, rfl, hg, hac, htg⟩ := g6
      obtain ⟨gs, rfl⟩ := rE_cells hg
      refine ⟨ad, g1, _, _, _, _, _, _, _, _, _, _, _, _, _, g5, (rmoveOk_c hB7 g6' hF (hb3 y hym) (by omega)).mono ?_⟩
      rintro _ w8 ⟨⟨r, rfl, m8, a8, hB8⟩, hO8⟩
      have o8 := only11 o7 hO8
      have z8 := hO8.size
      exact ⟨_, rfl, sm z7 hO8, fun _ => bad o8 hB8, fun _ => ⟨kv - 1, by omega, j + 1, _, _, by rw [wr' (by omega) (by omega)]; rfl, by omega, by omega, o8, by omega, hB8⟩⟩
    · rintro kv2 _ w9 ⟨i, m9, a9, rfl, hkv2, hi, o9, z9, hB9, h9, hk9⟩
      refine ⟨fun hci => ?_, fun hci => ⟨⟨true, rfl, _, _, _, hB9, fun _ => ?_⟩, o9⟩⟩
      · have hci := of_decide_eq_true hci
        obtain ⟨ad, y, cs, g1, g2, g3, g4, g5, g6⟩ := (kK o9).get (Int.natCast_nonneg i) (by omega)
        rw [Int.toNat_natCast] at g2
        have hym := List.mem_of_getElem? g2
        have hys := szNs_mem hym
        have g6' := g6
        obtain ⟨D', rfl⟩ : ∃ D', D = D' + 1 := by
         cases D with
         | zero => exact g6.elim
         | succ D' => exact ⟨D', rfl⟩
        obtain ⟨en', lv', mv', kids', rfl, _⟩ := g6
        have hne : nNds (ks.take (i + 1)) = nNds (ks.take i) + nNd y := by
         rw [List.take_add_one, g2, nNds_app]
         show _ + nNds [y] = _
         rw [nNds, nNds]
         omega
        have hnk := szNs_len ks
        refine ⟨ad, g1, _, _, _, _, en', lv', mv', kids', _, g5, ?_⟩
        rw [wr' (x := deep + 1) (by omega) (by omega)]
        refine (rnodeOk_c hF (D' + 1) hB9 g6' (ndsN_mem hkn hym) (by omega) (by omega) h9 (by omega) (by omega)).mono ?_
        rintro _ w10 ⟨⟨r, rfl, n10, m10, a10, hB10, hr⟩, hO10⟩
        have o10 := only11 o9 hO10
        have z10 := hO10.size
        refine ⟨_, rfl, sm z9 hO10, fun _ => bad o10 hB10, fun hrr => ?_⟩
        have hrr : r = true := by simpa using hrr
        obtain ⟨⟨e1, e2⟩, e3⟩ := hr hrr
        exact ⟨kv2 - 1, by omega, i + 1, _, _, by rw [wr' (by omega) (by omega)]; rfl, by omega, by omega, o10, by omega, by rw [hne]; rw [e1] at hB10; rw [show n + 1 + ((nNds (ks.take i) + nNd y : Nat) : Int) = n + 1 + (nNds (ks.take i) : Int) + (nNd y : Int) by omega]; exact hB10, by rw [hne]; omega, by rw [List.take_add_one, g2, kdNs_app]; exact ⟨hk9, e3, trivial⟩⟩
      · have hci := of_decide_eq_false hci
        have hie : i = ks.length := by omega
        subst hie
        rw [List.take_of_length_le (Nat.le_refl _)] at h9 hk9 ⊢
        exact ⟨⟨by omega, h9⟩, by rw [kdN]; exact ⟨hkd, hk9⟩⟩
  · rintro _ w11 ⟨rfl, hO11⟩
    have z11 := hO11.size
    exact ⟨_, rfl, sm (by omega) (only1 hO11), only11 o2 (only1 hO11), by omega, hO11.blk hB2 (by simp)⟩
def RtC (c : Ch) : Prop := nNd c.root <= 64 /\ kdN c.root /\ c.root.b.k = 1
theorem rok_c {w : World} {F : Nat -> Prop} {D : Nat} {c : Ch} {vs : Sl} {cs : List Value} (hx : ChR false (D + 1) w F c vs cs) (hn : chN c) (hs : szVs c.vars + szN c.root <= 8388608) :
  Calls Try.prog 50 #[.agg (vs.v :: cs).toArray] w fun e w' => (∃ r : Bool, e = .returned (.bool r) /\ (r = true -> RtC c)) /\ Only [] w w' := by
 obtain ⟨en, lv, mv, kids, hcs, _⟩ := hx.root
 subst hcs
 refine (v64w vs c.root.b.k (T c.root.b.nm) (T c.root.b.ini) (T c.root.b.dft) en lv mv kids c.root.b.a (fun v w' => (∃ r : Bool, v = .bool r /\ (r = true -> RtC c)) /\ Only [] w w') w ?_).mono (by rintro _ w' ⟨v, rfl, ⟨r, rfl, h⟩, h'⟩; exact ⟨⟨r, rfl, h⟩, h'⟩)
 unfold v64v
 intro k0 w0 hk0 hk0' hO0
 have z0 := hO0.size
 have hvl := hx.vars.1.len
 have hvs : c.vars.length <= szVs c.vars := by
  have : ∀ l : List Vr, l.length <= szVs l := fun l => by induction l with
   | nil => exact Nat.zero_le _
   | cons a l ih => rw [szVs, List.length_cons]; omega
  exact this _
 have kV : ∀ {u : World}, Only [] w u -> SliceF rVr 3 u F vs c.vars := fun hO => SliceF.only rVr_ok (by decide) hx.vars.1 hO (by simp)
 have sm : ∀ {u u' : World}, w0.heap.size <= u.heap.size -> Only [] u u' -> Same [k0] u u' := fun hz hO => hO.same (by simp; omega)
 refine ⟨fun kv i u => ∃ j : Nat, i = (j : Int) /\ kv + j = c.vars.length /\ j <= c.vars.length /\ Only [] w u /\ w0.heap.size <= u.heap.size, c.vars.length, ⟨0, rfl, by omega, Nat.zero_le _, hO0, Nat.le_refl _⟩, ?_⟩
 rintro kv _ w1 ⟨j, rfl, hkv, hj, o1, z1⟩
 refine ⟨fun hcj => ?_, fun _ k4 w3 hk4 hk4' hO3 hB3 => ?_⟩
 · have hcj := of_decide_eq_true hcj
   obtain ⟨ad, y, cs, g1, g2, g3, g4, g5, g6⟩ := (kV o1).get (Int.natCast_nonneg j) (by omega)
   rw [Int.toNat_natCast] at g2
   have hym := List.mem_of_getElem? g2
   have hys := szVs_mem hym
   have g6 : cs = [.string (T y.n), .int .i64 y.v, .int .i64 y.a] := g6
   subst g6
   refine ⟨ad, g1, _, g5.part 0 fun i v hi => one_part hi rfl, (rname_c w1 y.n (by omega)).mono ?_⟩
   rintro _ w2 ⟨rfl, hO2⟩
   have o2 := o1.tr0 hO2
   have z2 := hO2.size
   obtain ⟨ad', y', cs', p1, p2, p3, p4, p5, p6⟩ := (kV o2).get (Int.natCast_nonneg j) (by omega)
   rw [Int.toNat_natCast, g2] at p2
   injection p2 with p2
   subst p2
   have p6 : cs' = [.string (T y.n), .int .i64 y.v, .int .i64 y.a] := p6
   subst p6
   exact ⟨_, rfl, sm z1 hO2, ad', fun _ => p1, _, fun _ => p5.part 1 fun i v hi => one_part hi rfl, fun _ => ⟨⟨false, rfl, fun h => by cases h⟩, o2⟩, fun _ => ⟨kv - 1, by omega, j + 1, by rw [wr' (by omega) (by omega)]; rfl, by omega, by omega, o2, by omega⟩⟩
 · have o3 := o1.tr0 hO3
   have z3 := hO3.size
   have hr3 : rNd false (D + 1) w3 (fun k => F k /\ k < w.heap.size) c.root _ := (rNd_ok false _).keep ((rNd_ok false _).inHeap hx.root) fun k _ hlt => o3.block k hlt (by simp)
   refine (rnodeOk_c (F := fun k => F k /\ k < w.heap.size) (b := k4) (fun k hk => by have := hk.2; omega) (D + 1) (n := 0) (m := 0) (a := 0) (deep := 0) hB3 hr3 hn.2 (by omega) (by omega) (by omega) (by omega) (by omega)).mono ?_
   rintro _ w4 ⟨⟨r, rfl, n', m', a', hB4, hr⟩, hO4⟩
   have hO4' : Only [] w w4 := (o3.trP (hO4.p (F := fun k => w.heap.size <= k) fun x hx => by simp only [List.mem_singleton] at hx; exact .inl (by omega))).only fun k hk => hk
   refine ⟨r, rfl, hO4.same (by simp; omega), n', m', a', hB4, ⟨_, rfl, fun hh => ?_⟩, hO4'⟩
   simp only [Bool.and_eq_true] at hh
   obtain ⟨⟨h1, h2⟩, h3⟩ := hr hh.1.1.1.1
   exact ⟨by omega, h3, by simpa using hh.1.1.1.2⟩
section
variable {w : World} {F : Nat -> Prop}
theorem exX_le (x : Ex) : (exX x).length <= 16384 := exX_len x
theorem ract_c {y : Ac} {cs : List Value} (hx : rAc false w F y cs) (hn : acN y) (hs : szA y <= 8388608) :
  Calls Try.prog 73 #[.agg cs.toArray] w fun e w' => (∃ l : List UInt8, e = .returned (.string (T l)) /\ l.length <= szA y + 16500) /\ Only [] w w' := by
 obtain ⟨xc, rfl, hxe⟩ := hx
 obtain ⟨xs, rfl⟩ := rE_cells hxe
 unfold szA at hs ⊢
 have hxl := exX_le y.x
 refine (v55w y.k (T y.n) y.x.k y.x.n (T y.x.s) y.x.op xs y.x.a y.a (fun v w' => (∃ l : List UInt8, v = .string (T l) /\ l.length <= szX y.x + (y.n.length + 1) + 16500) /\ Only [] w w') w ?_).mono (by rintro _ w' ⟨v, rfl, ⟨r, rfl, h⟩, h'⟩; exact ⟨⟨r, rfl, h⟩, h'⟩)
 unfold v55v
 have b1 : (ByteArray.mk #[115, 101, 116, 32]) = T [115, 101, 116, 32] := rfl
 have b2 : (ByteArray.mk #[32, 61, 32]) = T [32, 61, 32] := rfl
 have b3 : (ByteArray.mk #[59]) = T [59] := rfl
 have b4 : (ByteArray.mk #[114, 97, 105, 115, 101, 32]) = T [114, 97, 105, 115, 101, 32] := rfl
 have b5 : (ByteArray.mk #[101, 109, 105, 116, 32]) = T [101, 109, 105, 116, 32] := rfl
 simp only [b1, b2, b3, b4, b5, T_app, T_size]
 have kE : ∀ {u : World}, Only [] w u -> rE false u F y.x (exv y.x.k y.x.n y.x.s y.x.op xs y.x.a) := fun hO => (rE_ok false).keep hxe fun k _ hlt => hO.block k hlt (by simp)
 have ln : ∀ {l m : List UInt8}, (l ++ m).length = l.length + m.length := List.length_append
 refine ⟨fun _ k0 w0 hk0 hk0' hO0 => ⟨fun k => k = k0, rfl, by omega, by rw [ln]; simp only [List.length_cons, List.length_nil]; omega, (rexpr_c (kE hO0) hn (by omega)).mono ?_⟩, fun _ => ⟨fun _ => ⟨by omega, by rw [ln]; simp only [List.length_cons, List.length_nil]; omega, fun k1 w2 _ _ hO => ⟨⟨_, rfl, by simp only [List.length_append, List.length_cons, List.length_nil]; omega⟩, hO⟩⟩, fun _ k2 w3 hk2 hk2' hO3 => ⟨fun k => k = k2, rfl, by omega, by rw [ln]; simp only [List.length_cons, List.length_nil]; omega, (rexpr_c (kE hO3) hn (by omega)).mono ?_⟩⟩⟩
 · rintro _ w1 ⟨rfl, hO1⟩
   refine ⟨_, rfl, hO1.same (by simp; omega), Keeps.only hO1, ?_, ?_, ⟨_, by rw [T_app, T_app], ?_⟩, hO0.tr0 hO1⟩
   · rw [T_size]; simp only [List.length_append, List.length_cons, List.length_nil]; omega
   · rw [T_app, T_size]; simp only [List.length_append, List.length_cons, List.length_nil]; omega
   · simp only [List.length_append, List.length_cons, List.length_nil]; omega
 · rintro _ w1 ⟨rfl, hO1⟩
   refine ⟨_, rfl, hO1.same (by simp; omega), Keeps.only hO1, ?_, ?_, ⟨_, by rw [T_app, T_app], ?_⟩, hO3.tr0 hO1⟩
   · rw [T_size]; simp only [List.length_append, List.length_cons, List.length_nil]; omega
   · rw [T_app, T_size]; simp only [List.length_append, List.length_cons, List.length_nil]; omega
   · simp only [List.length_append, List.length_cons, List.length_nil]; omega
end
theorem wu64 {n : Int} (h0 : 0 <= n) (h1 : n <= 18446744073709551615) : IntKind.wrap .u64 n = n := by
 have e : IntKind.wrap .u64 n = n % 18446744073709551616 := rfl
 rw [e]
 omega
theorem rnumA_c (w : World) {n : Int} (h : InI n) : Calls Try.prog 52 #[.int .i64 n] w fun e w' => e = .returned (.string (T (Lib.itoa n))) /\ Only [] w w' := by
 obtain ⟨h0, h1⟩ := h
 by_cases hn : 0 <= n
 · exact rnum_c w hn h1
 refine ret (v21w n (fun v w' => v = .string (T (Lib.itoa n)) /\ Only [] w w') w ?_)
 unfold v21v
 refine ⟨fun hc => absurd hc (by simp; omega), fun hc => ⟨fun hneg => ?_, fun hp => absurd (of_decide_eq_false hp) (by omega)⟩⟩
 have hsz : Calls Try.prog 61 #[.int .i64 n] w fun e w' => e = .returned (.int .u64 (-n)) /\ w' = w := by
  refine ret (v23w n (fun v w' => v = .int .u64 (-n) /\ w' = w) w ?_)
  unfold v23v
  refine ⟨fun _ => ⟨?_, rfl⟩, fun hp => absurd (of_decide_eq_false hp) (by omega)⟩
  rw [wr' (x := n + 1) (by omega) (by omega), wr' (by omega) (by omega), wu64 (n := 0 - (n + 1)) (by omega) (by omega), wu64 (by omega) (by omega)]
  congr 1
  omega
 refine hsz.mono ?_
 rintro _ u ⟨rfl, hu⟩
 obtain rfl : w = u := hu.symm
 obtain ⟨k, hk⟩ : ∃ k : Nat, -n = (k : Int) := ⟨(-n).toNat, by omega⟩
 rw [hk]
 refine ⟨_, rfl, (rdigits_c k w (by omega)).mono ?_⟩
 rintro _ w1 ⟨rfl, hO1⟩
 have hk0 : ¬ k = 0 := by omega
 have hl := dec_len_le k (by omega)
 rw [if_neg hk0]
 refine ⟨_, rfl, by rw [T_size]; omega, ?_, hO1⟩
 rw [show (ByteArray.mk #[45]) = T [45] from rfl, T_app]
 unfold Lib.itoa
 rw [if_pos (by omega), show n.natAbs = k by omega]
 rfl
theorem itoa_le {n : Int} (h : InI n) : (Lib.itoa n).length <= 41 := by
 obtain ⟨h0, h1⟩ := h
 unfold Lib.itoa
 split
 · rw [List.length_cons]
   have := dec_len_le n.natAbs (by omega)
   omega
 · have := dec_len_le n.toNat (by omega)
   omega
section
variable {w : World} {F : Nat -> Prop}
theorem rblock_c {l : Sl} {acs : List Ac} (hl : SlG false (rAc false) 9 113 w F l acs) (hn : ∀ y, y ∈ acs -> acN y) (hs : szAs acs <= 1048576) :
  Calls Try.prog 62 #[l.v] w fun e w' => (∃ t : List UInt8, e = .returned (.string (T t)) /\ t.length <= 3 + acs.length * 1065080) /\ Only [] w w' := by
 refine (v56w l (fun v w' => (∃ t : List UInt8, v = .string (T t) /\ t.length <= 3 + acs.length * 1065080) /\ Only [] w w') w ?_).mono (by rintro _ w' ⟨v, rfl, ⟨r, rfl, h⟩, h'⟩; exact ⟨⟨r, rfl, h⟩, h'⟩)
 unfold v56v
 have hln := hl.1.len
 have hll := szAs_len acs
 have kp : ∀ {u : World}, Only [] w u -> SliceF (rAc false) 9 u F l acs := fun hO => SliceF.only (rAc_ok false) (by decide) hl.1 hO (by simp)
 refine ⟨fun kv s i u => ∃ (j : Nat) (t : List UInt8), s = T t /\ i = (j : Int) /\ kv + j = acs.length /\ j <= acs.length /\ t.length <= 1 + j * 1065080 /\ Only [] w u, acs.length, ⟨0, [123], rfl, rfl, by omega, Nat.zero_le _, by simp, Only.refl _ _⟩, ?_⟩
 rintro kv _ _ w0 ⟨j, t, rfl, rfl, hkv, hj, ht, hO⟩
 refine ⟨fun hcj => ?_, fun hcj => ?_⟩
 · have hcj := of_decide_eq_true hcj
   obtain ⟨ad, y, cs, g1, g2, g3, g4, g5, g6⟩ := (kp hO).get (Int.natCast_nonneg j) (by omega)
   rw [Int.toNat_natCast] at g2
   have hym := List.mem_of_getElem? g2
   have hys := szAs_mem hym
   have g6' := g6
   obtain ⟨xc, rfl, hxe⟩ := g6
   obtain ⟨xs, rfl⟩ := rE_cells hxe
   refine ⟨by rw [T_size]; omega, ad, g1, _, _, _, _, _, _, _, _, _, g5, (ract_c g6' (hn y hym) (by omega)).mono ?_⟩
   rintro _ w1 ⟨⟨m, rfl, hm⟩, hO1⟩
   have hml : (t ++ [32] ++ m).length <= 1 + (j + 1) * 1065080 := by
    rw [List.length_append, List.length_append, List.length_singleton, Nat.add_mul]
    omega
   refine ⟨_, rfl, ?_, kv - 1, by omega, j + 1, t ++ [32] ++ m, ?_, by rw [wr' (by omega) (by omega)]; rfl, by omega, by omega, hml, hO.tr0 hO1⟩
   · rw [show (ByteArray.mk #[32]) = T [32] from rfl, T_app, T_size, T_size, List.length_append, List.length_singleton]
     omega
   · rw [show (ByteArray.mk #[32]) = T [32] from rfl, T_app, T_app]
 · have hcj := of_decide_eq_false hcj
   have hje : j = acs.length := by omega
   subst hje
   refine ⟨by rw [T_size]; omega, ⟨t ++ [32, 125], by rw [show (ByteArray.mk #[32, 125]) = T [32, 125] from rfl, T_app], ?_⟩, hO⟩
   rw [List.length_append]
   simp only [List.length_cons, List.length_nil]
   omega
end
section
variable {w : World} {F : Nat -> Prop}
theorem rmove_c {x : Mv} {cs : List Value} (hx : rMv false w F x cs) (hn : mvN x) (hs : szM x <= 1048576) :
  Calls Try.prog 63 #[.agg cs.toArray] w fun e w' => (∃ t : List UInt8, e = .returned (.string (T t)) /\ t.length <= 3000000000000) /\ Only [] w w' := by
 obtain ⟨gc, asl, tg, rfl, hg, hac, htg⟩ := hx
 obtain ⟨gs, rfl⟩ := rE_cells hg
 unfold szM at hs
 have hwt : InI x.wt := hn.w
 refine (v62w x.k (T x.ev) x.wt x.gd x.g.k x.g.n (T x.g.s) x.g.op gs x.g.a asl tg x.a (fun v w' => (∃ t : List UInt8, v = .string (T t) /\ t.length <= 3000000000000) /\ Only [] w w') w ?_).mono (by rintro _ w' ⟨v, rfl, ⟨r, rfl, h⟩, h'⟩; exact ⟨⟨r, rfl, h⟩, h'⟩)
 unfold v62v
 intro k0 w0 hk0 hk0' hO0
 have z0 := hO0.size
 have sm : ∀ {u u' : World}, w0.heap.size <= u.heap.size -> Only [] u u' -> Same [k0] u u' := fun hz hO => hO.same (by simp; omega)
 have kT : ∀ {u : World}, Only [] w u -> SliceF rTx 1 u F tg x.tg := fun hO => SliceF.only rTx_ok (by decide) htg.1 hO (by simp)
 have hxl := exX_le x.g
 have hal := szAs_len x.acts
 have htl := szT_len x.tg
 have hcl := hac.1.len
 have htn := htg.1.len
 let St (K : Nat) : ByteArray -> World -> Prop := fun s u => ∃ t : List UInt8, s = T t /\ t.length <= K /\ Only [] w u /\ w0.heap.size <= u.heap.size
 refine ⟨St 1048600, fun s0 w1 ⟨t0, e0, h0, o0, y0⟩ => ⟨St 1048700, fun s1 w2 ⟨t1, e1, h1, o1, y1⟩ => ⟨St 1066000, fun s2 w3 ⟨t2, e2, h2, o2, y2⟩ => ⟨St 1117000000000, fun s3 w4 ⟨t3, e3, h3, o3, y3⟩ => ?_, fun hc => ?_, fun _ => ⟨t2, e2, by omega, o2, y2⟩⟩, fun hc => ?_, fun _ => ⟨t1, e1, by omega, o1, y1⟩⟩, fun hc => ?_, fun _ => ⟨t0, e0, by omega, o0, y0⟩⟩, fun hc => ?_, fun _ => ⟨[97, 108, 119, 97, 121, 115], rfl, by decide, hO0, Nat.le_refl _⟩⟩
 · subst e3
   refine ⟨fun kv s i u => ∃ (j : Nat) (t : List UInt8), s = T t /\ i = (j : Int) /\ kv + j = x.tg.length /\ j <= x.tg.length /\ t.length <= 1117000000000 + j * 1048590 /\ Only [] w u, x.tg.length, ⟨0, t3, rfl, rfl, by omega, Nat.zero_le _, by omega, o3⟩, ?_⟩
   rintro kv _ _ w5 ⟨j, t, rfl, rfl, hkv, hj, ht, hO⟩
   refine ⟨fun hcj => ⟨fun s u => ∃ t' : List UInt8, s = T t' /\ t'.length <= t.length + 4 /\ u = w5, ?_, fun _ => ⟨by rw [T_size]; omega, t ++ [32, 45, 62, 32], by rw [show (ByteArray.mk #[32, 45, 62, 32]) = T [32, 45, 62, 32] from rfl, T_app], by simp, rfl⟩, fun _ => ⟨by rw [T_size]; omega, t ++ [44, 32], by rw [show (ByteArray.mk #[44, 32]) = T [44, 32] from rfl, T_app], by simp, rfl⟩⟩, fun hcj => ⟨by rw [T_size]; omega, ⟨t ++ [59], by rw [show (ByteArray.mk #[59]) = T [59] from rfl, T_app], ?_⟩, hO⟩⟩
   · have hcj := of_decide_eq_true hcj
     rintro _ w6 ⟨t', rfl, ht', hw⟩
     obtain rfl : w5 = w6 := hw.symm
     obtain ⟨ad, s, cs, g1, g2, g3, g4, g5, g6⟩ := (kT hO).get (Int.natCast_nonneg j) (by omega)
     rw [Int.toNat_natCast] at g2
     have hsl := szT_mem (List.mem_of_getElem? g2)
     have g6 : cs = [.string (T s)] := g6
     subst g6
     refine ⟨ad, g1, _, g5, by rw [T_size, T_size]; omega, kv - 1, by omega, j + 1, t' ++ s, by rw [T_app], by rw [wr' (by omega) (by omega)]; rfl, by omega, by omega, ?_, hO⟩
     rw [List.length_append, Nat.add_mul]
     omega
   · rw [List.length_append, List.length_singleton]
     have : j * 1048590 <= 1048576 * 1048590 := Nat.mul_le_mul_right _ (by omega)
     omega
 · subst e2
   have hbb : x.acts.length * 1065080 <= 1048576 * 1065080 := Nat.mul_le_mul_right _ (by omega)
   refine ⟨by rw [T_size]; omega, (rblock_c (hac.keep (rAc_ok false) (by decide) fun k _ hlt => o2.block k hlt (by simp)) hn.a (by omega)).mono ?_⟩
   rintro _ w7 ⟨⟨t, rfl, ht⟩, hO7⟩
   have z7 := hO7.size
   refine ⟨_, rfl, sm y2 hO7, ?_, t2 ++ [32] ++ t, by rw [show (ByteArray.mk #[32]) = T [32] from rfl, T_app, T_app], ?_, o2.tr0 hO7, by omega⟩
   · rw [show (ByteArray.mk #[32]) = T [32] from rfl, T_app, T_size, T_size, List.length_append, List.length_singleton]
     omega
   · rw [List.length_append, List.length_append, List.length_singleton]
     omega
 · subst e1
   refine ⟨by rw [T_size]; omega, (rexpr_c ((rE_ok false).keep hg fun k _ hlt => o1.block k hlt (by simp)) hn.1 (by omega)).mono ?_⟩
   rintro _ w8 ⟨rfl, hO8⟩
   have z8 := hO8.size
   refine ⟨_, rfl, sm y1 hO8, ?_, ?_, t1 ++ [32, 91] ++ exX x.g ++ [93], by rw [show (ByteArray.mk #[32, 91]) = T [32, 91] from rfl, show (ByteArray.mk #[93]) = T [93] from rfl, T_app, T_app, T_app], ?_, o1.tr0 hO8, by omega⟩
   · rw [show (ByteArray.mk #[32, 91]) = T [32, 91] from rfl, T_app, T_size, T_size, List.length_append]
     simp only [List.length_cons, List.length_nil]
     omega
   · rw [show (ByteArray.mk #[32, 91]) = T [32, 91] from rfl, T_app, T_app, T_size, List.length_append, List.length_append]
     simp only [List.length_cons, List.length_nil]
     omega
   · simp only [List.length_append, List.length_cons, List.length_nil]
     omega
 · refine (rnumA_c w1 hwt).mono ?_
   rintro _ w9 ⟨rfl, hO9⟩
   have z9 := hO9.size
   have := itoa_le hwt
   refine ⟨_, rfl, sm y0 hO9, by rw [T_size]; omega, [97, 102, 116, 101, 114, 32] ++ Lib.itoa x.wt, by rw [show (ByteArray.mk #[97, 102, 116, 101, 114, 32]) = T [97, 102, 116, 101, 114, 32] from rfl, T_app], ?_, o0.tr0 hO9, by omega⟩
   rw [List.length_append]
   simp only [List.length_cons, List.length_nil]
   omega
 · refine ⟨by rw [T_size]; omega, [111, 110, 32] ++ x.ev, by rw [show (ByteArray.mk #[111, 110, 32]) = T [111, 110, 32] from rfl, T_app], ?_, hO0, Nat.le_refl _⟩
   rw [List.length_append]
   simp only [List.length_cons, List.length_nil]
   omega
end
structure Prg (w : World) (b : Nat) (sl : Sl) (l : List UInt8) : Prop where
 blk : Blk w b 89 [sl.v]
 buf : Bf w (b + 1) sl l
section
variable {w w0 w1 w2 w' : World} {b k0 : Nat} {sl sl' sl'' : Sl} {l : List UInt8}
theorem Prg.only (h : Prg w b sl l) (hO : Only [] w w') : Prg w' b sl l := ⟨hO.blk h.blk (by simp), h.buf.keep fun g _ hl => hO.block g hl (by simp)⟩
theorem Prg.lb (h : Prg w b sl l) : b < w.heap.size := h.blk.lt
theorem Prg.far (h : Prg w b sl l) {k : Nat} (hk : k < b) : ¬ (k = b ∨ sl.a = some ⟨k, 0, none⟩) := by
 rintro (e | e)
 · omega
 · have := (h.buf.lt e).1; omega
theorem Prg.put {s' : Sl} {m : List UInt8} {e : TypeId} (h : Prg w b sl l) (k2 : Bf w1 (b + 1) s' m) (k3 : OnlyP (fun k => sl.a = some ⟨k, 0, none⟩) w w1) (k4 : ∀ k, s'.a = some ⟨k, 0, none⟩ -> sl.a = some ⟨k, 0, none⟩ ∨ w.heap.size <= k) :
  Blk w1 b 89 [sl.v] /\ ∀ w2, Only [b] w1 w2 -> Blk w2 b 89 [s'.v] -> Prg w2 b s' m /\ Mvd b sl w s' w2 := by
 have hb := h.lb
 refine ⟨k3.blk h.blk fun e => by have := (h.buf.lt e).1; omega, fun w2 hO2 hB2 => ⟨⟨hB2, k2.keep fun g hg hl => hO2.block g hl (by have := (k2.lt hg).1; simp; omega)⟩, (k3.mono fun k _ hk => .inr hk).trans (hO2.p (F := fun k => k = b) fun x hx => .inl (by simpa using hx)) fun k hk => .inl (.inl hk), k4⟩⟩
theorem appB {B : Nat} (h : Bf w B sl l) (cs : List UInt8) {n : Nat} {parts : Array (Nat × Value)} (hp : parts = (((cs.map byteV).zipIdx 0).map fun x => (x.2, x.1)).toArray) (hn : cs.length = n) (h0 : 0 < n) (hsm : n * 1 <= 16777216) (hB : B <= w.heap.size) (hm : l.length + cs.length <= 140737488355328) :
  ∃ y w1, (Instr.buildSlice 87 n parts).run Try.prog w = .ok (Sl.v y) w1 /\ Only [] w w1 /\ ∃ s' w2, (Builtin.append_ #[87, 87] 87 #[Sl.v sl, Sl.v y]).run Try.prog w1 = .ok (Sl.v s') w2 /\ Bf w2 B s' (l ++ cs) /\
   OnlyP (fun k => sl.a = some ⟨k, 0, none⟩) w w2 /\ ∀ k, s'.a = some ⟨k, 0, none⟩ -> sl.a = some ⟨k, 0, none⟩ ∨ w.heap.size <= k := by
 obtain ⟨y, w1, k1, k2, k3, _⟩ := buildB w cs hp hn h0 hsm
 have z1 := k3.size
 have h1 : Bf w1 B sl l := h.keep fun g hg hl => k3.block g hl (by simp)
 obtain ⟨s', w2, m1, m2, gs, m3, m4, m5⟩ := app_own (P := Try.prog) (t := 87) (ty := 87) (e := 5) (i := Try.t5) (bytes := 1) (size := 1) (r := rByte) u8_slice u8_info rfl rfl rfl rfl rByte_ok (h1.own fun _ => True) ((flatB k2).mono rByte_ok fun k hk => ⟨trivial, fun e => by have := (h.lt e).2; have := hk.1; omega⟩) (by omega) (by omega) (by decide)
 refine ⟨y, w1, k1, k3, s', w2, m1, Bf.of m2 (by rw [List.length_append]; omega), k3.trP (m3.p fun x hx => .inl (m4 x hx).1), fun k hk => ?_⟩
 rcases m5 with e | e
 · rw [e] at hk; exact .inl hk
 · rw [e] at hk
   injection hk with hk
   injection hk with hk
   exact .inr (by omega)
theorem rline_c (h : Prg w b sl l) (hl : l.length <= 4000000000000) {deep : Int} (hd0 : 0 <= deep) (hd1 : deep <= 4194304) (m : List UInt8) (hm : m.length <= 3000000000010) :
  Calls Try.prog 51 #[.pointer (some ⟨b, 0, none⟩), .int .i64 deep, .string (T m)] w fun e w' => e = .returned (.tuple #[]) /\ ∃ (sl' : Sl) (l' : List UInt8), Prg w' b sl' l' /\ l'.length <= 4000000000000 /\ Mvd b sl w sl' w' := by
 refine ret (v66w ⟨b, 0, none⟩ deep (T m) (fun v w' => v = .tuple #[] /\ ∃ (sl' : Sl) (l' : List UInt8), Prg w' b sl' l' /\ l'.length <= 4000000000000 /\ Mvd b sl w sl' w') w ?_)
 unfold v66v
 have hn := h.buf.len
 have hb := h.lb
 refine ⟨sl, Blk.at1 h.blk 0 rfl, fun _ => ⟨rfl, sl, l, h, hl, Mvd.refl _ _ _⟩, fun hc => ?_⟩
 have hc : l.length <= 16384 := by have := of_decide_eq_false hc; omega
 refine ⟨fun kv i u => ∃ (j : Nat) (q : Sl) (t : List UInt8), i = (j : Int) /\ (kv : Int) + j = deep /\ Prg u b q t /\ t.length <= 16384 + 2 * j /\ Mvd b sl w q u, deep.toNat, ⟨0, sl, l, rfl, by omega, h, by omega, Mvd.refl _ _ _⟩, ?_⟩
 rintro kv _ w0 ⟨j, q, t, rfl, hkv, hP, ht, hM⟩
 have hb0 := hP.lb
 refine ⟨fun hcj => ?_, fun hcj => ?_⟩
 · have hcj := of_decide_eq_true hcj
   obtain ⟨y, w1, a1, a2, s', w2, a3, a4, a5, a6⟩ := appB hP.buf [32, 32] (n := 2) (parts := #[.mk 0 (.int .u8 32), .mk 1 (.int .u8 32)]) rfl rfl (by decide) (by decide) (by omega) (by simp; omega)
   obtain ⟨c1, c2⟩ := hP.put (e := 0) a4 a5 a6
   refine ⟨q, Blk.at1 hP.blk 0 rfl, y, w1, a1, s', w2, a3, b, 0, _, _, rfl, c1, Nat.le_refl 1, fun w3 hO3 hB3 => ?_⟩
   obtain ⟨c3, c4⟩ := c2 w3 hO3 hB3
   exact ⟨kv - 1, by omega, j + 1, s', _, by rw [wr' (by omega) (by omega)]; rfl, by omega, c3, by simp; omega, hM.trans c4⟩
 · obtain ⟨s', w1, k1, k2, k3, k4⟩ := app_str hP.buf m (by omega) (by omega)
   obtain ⟨c1, c2⟩ := hP.put (e := 0) k2 k3 fun k hk => by
    rcases k4 with e | e
    · rw [e] at hk; exact .inl hk
    · rw [e] at hk
      injection hk with hk
      injection hk with hk
      exact .inr (by omega)
   refine ⟨q, Blk.at1 hP.blk 0 rfl, s', w1, k1, b, 0, _, _, rfl, c1, Nat.le_refl 1, fun w2 hO2 hB2 => ?_⟩
   obtain ⟨hP2, hM2⟩ := c2 w2 hO2 hB2
   have hb2 := hP2.lb
   obtain ⟨y, w3, a1, a2, s5, w4, a3, a4, a5, a6⟩ := appB hP2.buf [10] (n := 1) (parts := #[.mk 0 (.int .u8 10)]) rfl rfl (by decide) (by decide) (by omega) (by simp; omega)
   obtain ⟨d1, d2⟩ := hP2.put (e := 0) a4 a5 a6
   refine ⟨s', Blk.at1 hP2.blk 0 rfl, y, w3, a1, s5, w4, a3, b, 0, _, _, rfl, d1, Nat.le_refl 1, fun w5 hO5 hB5 => ?_⟩
   obtain ⟨d3, d4⟩ := d2 w5 hO5 hB5
   exact ⟨rfl, s5, _, d3, by simp only [List.length_append, List.length_singleton]; omega, (hM.trans hM2).trans d4⟩
end
end Go.Proofs.Ytddfmhccaapgjaa.Con
namespace Go.Proofs.Ytddfmhccaapgjaa.Con
open Go Go.RowKit Go.Kt Go.Kt.V Go.Proofs.Ytddfmhccaapgjaa.Vc
set_option linter.unusedSimpArgs false
set_option linter.unusedVariables false
set_option maxHeartbeats 1600000
set_option maxRecDepth 100000
def PrgM (w : World) (b : Nat) (sl : Sl) (w0 : World) (s0 : Sl) : Prop := (∃ l : List UInt8, Prg w b sl l /\ l.length <= 4000000000000) /\ Mvd b s0 w0 sl w
theorem PrgM.line {w w0 : World} {b : Nat} {sl s0 : Sl} (h : PrgM w b sl w0 s0) {deep : Int} (hd0 : 0 <= deep) (hd1 : deep <= 4194304) (m : List UInt8) (hm : m.length <= 3000000000010) {k0 : Nat} (h1 : k0 ≠ b) (h2 : s0.a ≠ some ⟨k0, 0, none⟩) (h3 : k0 < w0.heap.size) :
  Calls Try.prog 51 #[.pointer (some ⟨b, 0, none⟩), .int .i64 deep, .string (T m)] w fun e w' => e = .returned (.tuple #[]) /\ Same [k0] w w' /\ ∃ sl', PrgM w' b sl' w0 s0 := by
 obtain ⟨⟨l, hP, hl⟩, hM⟩ := h
 refine (rline_c hP hl hd0 hd1 m hm).mono ?_
 rintro _ w' ⟨rfl, sl', l', hP', hl', hM'⟩
 exact ⟨rfl, hM.sm h1 h2 h3 hM', sl', ⟨l', hP', hl'⟩, hM.trans hM'⟩
theorem PrgM.only {w w' w0 : World} {b : Nat} {sl s0 : Sl} (h : PrgM w b sl w0 s0) (hO : Only [] w w') : PrgM w' b sl w0 s0 := by
 obtain ⟨⟨l, hP, hl⟩, hM⟩ := h
 exact ⟨⟨l, hP.only hO, hl⟩, hM.trans (Mvd.only hO)⟩
def NdC (D : Nat) : Prop := ∀ {F : Nat -> Prop} {w : World} {b : Nat} {sl : Sl} {l : List UInt8} {x : Nd} {cs : List Value} {deep : Int}, rNd false D w F x cs -> (∀ k, F k -> k < b) -> Prg w b sl l -> l.length <= 4000000000000 -> ndN x -> szN x <= 1048576 -> 0 <= deep -> deep + nNd x <= 4000000 ->
 Calls Try.prog 64 #[.pointer (some ⟨b, 0, none⟩), .agg cs.toArray, .int .i64 deep] w fun e w' => e = .returned (.tuple #[]) /\ ∃ (sl' : Sl) (l' : List UInt8), Prg w' b sl' l' /\ l'.length <= 4000000000000 /\ Mvd b sl w sl' w'
theorem rbody_c {D : Nat} (hD : NdC D) {F : Nat -> Prop} {w : World} {b : Nat} {sl : Sl} {l : List UInt8} {x : Nd} {cs : List Value} {deep : Int} (hx : rNd false (D + 1) w F x cs) (hF : ∀ k, F k -> k < b) (hP : Prg w b sl l) (hl : l.length <= 4000000000000) (hn : ndN x) (hs : szN x <= 1048576) (hd0 : 0 <= deep) (hd1 : deep + nNd x <= 4000001) :
  Calls Try.prog 53 #[.pointer (some ⟨b, 0, none⟩), .agg cs.toArray, .int .i64 deep] w fun e w' => e = .returned (.tuple #[]) /\ ∃ (sl' : Sl) (l' : List UInt8), Prg w' b sl' l' /\ l'.length <= 4000000000000 /\ Mvd b sl w sl' w' := by
 obtain ⟨bb, ks⟩ := x
 obtain ⟨en, lv, mv, kids, hcs, hnb, hk0⟩ := hx
 dsimp only [Nd.kids, Nd.b] at hcs hnb hk0
 subst hcs
 have hk := hk0.1
 rw [ndN] at hn
 obtain ⟨⟨hb1, hb2, hb3⟩, hkn⟩ := hn
 obtain ⟨he, hlv, hmv⟩ := hnb
 rw [szN] at hs
 rw [nNd] at hd1
 unfold szB at hs
 have hbl := hP.lb
 refine ret (v65w ⟨b, 0, none⟩ bb.k (T bb.nm) (T bb.ini) (T bb.dft) en lv mv kids bb.a deep (fun v w' => v = .tuple #[] /\ ∃ (sl' : Sl) (l' : List UInt8), Prg w' b sl' l' /\ l'.length <= 4000000000000 /\ Mvd b sl w sl' w') w ?_)
 unfold v65v
 intro k0 w0 hk0' hk0'' hO0
 have z0 := hO0.size
 have hk0b : k0 ≠ b := by omega
 have hk0s : sl.a ≠ some ⟨k0, 0, none⟩ := fun e => by have := (hP.buf.lt e).2; omega
 have h0 : PrgM w0 b sl w0 sl := ⟨⟨l, hP.only hO0, hl⟩, Mvd.refl _ _ _⟩
 have nF : ∀ k, F k -> ¬ (k = b ∨ sl.a = some ⟨k, 0, none⟩) := fun k hk' => hP.far (hF k hk')
 have fr : ∀ {u : World} {q : Sl}, PrgM u b q w0 sl -> ∀ k, F k -> k < w.heap.size -> u.heap[k]? = w.heap[k]? := fun {u q} h k hk' hlt => (h.2.1.block k (by omega) (nF k hk')).trans (hO0.block k hlt (by simp))
 have sz : ∀ {u : World} {q : Sl}, PrgM u b q w0 sl -> w0.heap.size <= u.heap.size := fun h => h.2.1.size
 have sm : ∀ {u u' : World} {q : Sl}, PrgM u b q w0 sl -> Only [] u u' -> Same [k0] u u' := fun h hO => hO.same (by have := sz h; simp; omega)
 have kA : ∀ {u : World} {q s : Sl} {la : List Ac}, SlG false (rAc false) 9 113 w F s la -> PrgM u b q w0 sl -> SlG false (rAc false) 9 113 u F s la := fun h hp => h.keep (rAc_ok false) (by decide) (fr hp)
 have kM : ∀ {u : World} {q : Sl}, PrgM u b q w0 sl -> SliceF (rMv false) 13 u F mv bb.mv := fun hp => (hmv.keep (rMv_ok false) (by decide) (fr hp)).1
 have kK : ∀ {u : World} {q : Sl}, PrgM u b q w0 sl -> SliceF (rNd false D) 9 u F kids ks := fun hp => (hk0.keep (rNd_ok false D) (by decide) (fr hp)).1
 have hal := szAs_len bb.en
 have hal2 := szAs_len bb.lv
 have hml := hmv.1.len
 have hkl := hk.len
 have hmm := szMs_len bb.mv
 have hkk := szNs_len ks
 have m1 : bb.en.length * 1065080 <= 1048576 * 1065080 := Nat.mul_le_mul_right _ (by omega)
 have m2 : bb.lv.length * 1065080 <= 1048576 * 1065080 := Nat.mul_le_mul_right _ (by omega)
 let St : World -> Prop := fun u => ∃ q, PrgM u b q w0 sl
 refine ⟨St, fun w1 ⟨q1, h1⟩ => ⟨St, fun w2 ⟨q2, h2⟩ => ⟨St, fun w3 ⟨q3, h3⟩ => ?_, fun hc => ?_, fun _ => ⟨q2, h2⟩⟩, fun hc => ?_, fun _ => ⟨q1, h1⟩⟩, fun hc => ?_, fun _ => ⟨sl, h0⟩⟩
 · refine ⟨fun kv i u => ∃ j : Nat, i = (j : Int) /\ kv + j = bb.mv.length /\ j <= bb.mv.length /\ St u, bb.mv.length, ⟨0, rfl, by omega, Nat.zero_le _, q3, h3⟩, ?_⟩
   rintro kv _ w4 ⟨j, rfl, hkv, hj, q4, h4⟩
   obtain ⟨⟨l4, hP4, hl4⟩, hM4⟩ := h4
   have h4 : PrgM w4 b q4 w0 sl := ⟨⟨l4, hP4, hl4⟩, hM4⟩
   refine ⟨q4, fun _ => Blk.at1 hP4.blk 0 rfl, fun hcj => ?_, fun _ => ⟨fun kv i u => ∃ j : Nat, i = (j : Int) /\ kv + j = ks.length /\ j <= ks.length /\ St u, ks.length, ⟨0, rfl, by omega, Nat.zero_le _, q4, h4⟩, ?_⟩⟩
   · rw [Bool.and_eq_true] at hcj
     have hcj := of_decide_eq_true hcj.1
     obtain ⟨ad, y, cs, g1, g2, g3, g4, g5, g6⟩ := (kM h4).get (Int.natCast_nonneg j) (by omega)
     rw [Int.toNat_natCast] at g2
     have hym := List.mem_of_getElem? g2
     have hys := szMs_mem hym
     have g6' := g6
     obtain ⟨gc, asl, tg, rfl, hg, hac, htg⟩ := g6
     obtain ⟨gs, rfl⟩ := rE_cells hg
     refine ⟨ad, g1, _, _, _, _, _, _, _, _, _, _, _, _, _, g5, (rmove_c g6' (hb3 y hym) (by omega)).mono ?_⟩
     rintro _ w5 ⟨⟨t, rfl, ht⟩, hO5⟩
     refine ⟨_, rfl, sm h4 hO5, ((h4.only hO5).line hd0 (by omega) t (by omega) hk0b hk0s hk0'').mono ?_⟩
     rintro _ w6 ⟨rfl, hs6, q6, h6⟩
     exact ⟨rfl, hs6, kv - 1, by omega, j + 1, by rw [wr' (by omega) (by omega)]; rfl, by omega, by omega, q6, h6⟩
   · rintro kv2 _ w7 ⟨i, rfl, hkv2, hi, q7, h7⟩
     obtain ⟨⟨l7, hP7, hl7⟩, hM7⟩ := h7
     have h7 : PrgM w7 b q7 w0 sl := ⟨⟨l7, hP7, hl7⟩, hM7⟩
     refine ⟨fun hci => ?_, fun _ => ⟨rfl, q7, l7, hP7, hl7, (Mvd.only hO0).trans hM7⟩⟩
     have hci := of_decide_eq_true hci
     obtain ⟨ad, y, cs, g1, g2, g3, g4, g5, g6⟩ := (kK h7).get (Int.natCast_nonneg i) (by omega)
     rw [Int.toNat_natCast] at g2
     have hym := List.mem_of_getElem? g2
     have hys := szNs_mem hym
     have hyn := nNds_mem hym
     have g6' := g6
     obtain ⟨D', rfl⟩ : ∃ D', D = D' + 1 := by
      cases D with
      | zero => exact g6.elim
      | succ D' => exact ⟨D', rfl⟩
     obtain ⟨en', lv', mv', kids', rfl, _⟩ := g6
     refine ⟨ad, g1, _, _, _, _, en', lv', mv', kids', _, g5, (hD g6' hF hP7 hl7 (ndsN_mem hkn hym) (by omega) hd0 (by omega)).mono ?_⟩
     rintro _ w8 ⟨rfl, q8, l8, hP8, hl8, hM8⟩
     exact ⟨rfl, hM7.sm hk0b hk0s hk0'' hM8, kv2 - 1, by omega, i + 1, by rw [wr' (by omega) (by omega)]; rfl, by omega, by omega, q8, ⟨l8, hP8, hl8⟩, hM7.trans hM8⟩
 · refine (rblock_c (kA hlv h2) hb2 (by omega)).mono ?_
   rintro _ w9 ⟨⟨t, rfl, ht⟩, hO9⟩
   refine ⟨_, rfl, sm h2 hO9, by rw [T_size]; omega, ?_⟩
   rw [show (ByteArray.mk #[108, 101, 97, 118, 101, 32]) = T [108, 101, 97, 118, 101, 32] from rfl, T_app]
   refine ((h2.only hO9).line hd0 (by omega) _ (by rw [List.length_append]; simp only [List.length_cons, List.length_nil]; omega) hk0b hk0s hk0'').mono ?_
   rintro _ w10 ⟨rfl, hs10, q10, h10⟩
   exact ⟨rfl, hs10, q10, h10⟩
 · refine (rblock_c (kA he h1) hb1 (by omega)).mono ?_
   rintro _ w9 ⟨⟨t, rfl, ht⟩, hO9⟩
   refine ⟨_, rfl, sm h1 hO9, by rw [T_size]; omega, ?_⟩
   rw [show (ByteArray.mk #[101, 110, 116, 101, 114, 32]) = T [101, 110, 116, 101, 114, 32] from rfl, T_app]
   refine ((h1.only hO9).line hd0 (by omega) _ (by rw [List.length_append]; simp only [List.length_cons, List.length_nil]; omega) hk0b hk0s hk0'').mono ?_
   rintro _ w10 ⟨rfl, hs10, q10, h10⟩
   exact ⟨rfl, hs10, q10, h10⟩
 · refine ⟨by rw [T_size]; omega, by rw [show (ByteArray.mk #[105, 110, 105, 116, 105, 97, 108, 32]) = T [105, 110, 105, 116, 105, 97, 108, 32] from rfl, T_app, T_size, List.length_append]; simp only [List.length_cons, List.length_nil]; omega, ?_⟩
   rw [show (ByteArray.mk #[105, 110, 105, 116, 105, 97, 108, 32]) = T [105, 110, 105, 116, 105, 97, 108, 32] from rfl, show (ByteArray.mk #[59]) = T [59] from rfl, T_app, T_app]
   refine (h0.line hd0 (by omega) _ (by simp only [List.length_append, List.length_cons, List.length_nil]; omega) hk0b hk0s hk0'').mono ?_
   rintro _ w13 ⟨rfl, hs13, q13, h13⟩
   exact ⟨rfl, hs13, q13, h13⟩
theorem rnode_s {D : Nat} (hD : NdC D) {F : Nat -> Prop} {w : World} {b : Nat} {sl : Sl} {l : List UInt8} {x : Nd} {cs : List Value} {deep : Int} (hx : rNd false (D + 1) w F x cs) (hF : ∀ k, F k -> k < b) (hP : Prg w b sl l) (hl : l.length <= 4000000000000) (hn : ndN x) (hs : szN x <= 1048576) (hd0 : 0 <= deep) (hd1 : deep + nNd x <= 4000000) :
  Calls Try.prog 64 #[.pointer (some ⟨b, 0, none⟩), .agg cs.toArray, .int .i64 deep] w fun e w' => e = .returned (.tuple #[]) /\ ∃ (sl' : Sl) (l' : List UInt8), Prg w' b sl' l' /\ l'.length <= 4000000000000 /\ Mvd b sl w sl' w' := by
  obtain ⟨bb, ks⟩ := x
  have hx' := hx
  obtain ⟨en, lv, mv, kids, hcs, hnb, hk0⟩ := hx
  dsimp only [Nd.kids, Nd.b] at hcs hnb hk0
  subst hcs
  have hs' := hs
  rw [szN] at hs'
  unfold szB at hs'
  have hbl := hP.lb
  have hnp := nNd_pos (.mk bb ks)
  refine ret (v67w ⟨b, 0, none⟩ bb.k (T bb.nm) (T bb.ini) (T bb.dft) en lv mv kids bb.a deep (fun v w' => v = .tuple #[] /\ ∃ (sl' : Sl) (l' : List UInt8), Prg w' b sl' l' /\ l'.length <= 4000000000000 /\ Mvd b sl w sl' w') w ?_)
  unfold v67v
  intro k0 w0 hk0' hk0'' hO0
  have z0 := hO0.size
  have hk0b : k0 ≠ b := by omega
  have hk0s : sl.a ≠ some ⟨k0, 0, none⟩ := fun e => by have := (hP.buf.lt e).2; omega
  have h0 : PrgM w0 b sl w0 sl := ⟨⟨l, hP.only hO0, hl⟩, Mvd.refl _ _ _⟩
  have nF : ∀ k, F k -> ¬ (k = b ∨ sl.a = some ⟨k, 0, none⟩) := fun k hk' => hP.far (hF k hk')
  have fin : ∀ {u : World} {q : Sl}, PrgM u b q w0 sl -> ∃ (sl' : Sl) (l' : List UInt8), Prg u b sl' l' /\ l'.length <= 4000000000000 /\ Mvd b sl w sl' u := fun {u q} h => by
   obtain ⟨⟨l1, h1, h2⟩, h3⟩ := h
   exact ⟨q, l1, h1, h2, (Mvd.only hO0).trans h3⟩
  have ap : ∀ (a c : List UInt8), T a ++ T c = T (a ++ c) := T_app
  have e1 : (ByteArray.mk #[104, 105, 115, 116, 111, 114, 121, 32]) = T [104, 105, 115, 116, 111, 114, 121, 32] := rfl
  have e2 : (ByteArray.mk #[32, 45, 62, 32]) = T [32, 45, 62, 32] := rfl
  have e3 : (ByteArray.mk #[59]) = T [59] := rfl
  have e4 : (ByteArray.mk #[100, 101, 101, 112, 32]) = T [100, 101, 101, 112, 32] := rfl
  have e5 : (ByteArray.mk #[115, 116, 97, 116, 101, 32]) = T [115, 116, 97, 116, 101, 32] := rfl
  have e6 : (ByteArray.mk #[32, 123]) = T [32, 123] := rfl
  have e7 : (ByteArray.mk #[112, 97, 114, 97, 108, 108, 101, 108, 32]) = T [112, 97, 114, 97, 108, 108, 101, 108, 32] := rfl
  have e8 : (ByteArray.mk #[125]) = T [125] := rfl
  simp only [e1, e2, e3, e4, e5, e6, e7, e8, ap, T_size]
  have go : ∀ (m : List UInt8), m.length <= 3000000000010 -> Calls Try.prog 51 #[.pointer (some ⟨b, 0, none⟩), .int .i64 deep, .string (T m)] w0 fun e w' => e = .returned (.tuple #[]) /\ Same [k0] w0 w' /\ ∃ sl', PrgM w' b sl' w0 sl := fun m hm => h0.line hd0 (by omega) m hm hk0b hk0s hk0''
  refine ⟨fun u => ∃ q, PrgM u b q w0 sl, fun w1 ⟨q1, h1⟩ => ?_, fun _ => ?_, fun _ => ⟨fun _ => ?_, fun _ => ⟨fun _ => ?_, fun _ => ?_⟩⟩⟩
  · obtain ⟨⟨l1, hP1, hl1⟩, hM1⟩ := h1
    have hr1 : rNd false (D + 1) w1 F (.mk bb ks) (ndv bb.k bb.nm bb.ini bb.dft en lv mv kids bb.a) := (rNd_ok false _).keep hx' fun k hk' hlt => (hM1.1.block k (by omega) (nF k hk')).trans (hO0.block k hlt (by simp))
    rw [wr' (x := deep + 1) (by omega) (by omega)]
    refine (rbody_c hD hr1 hF hP1 hl1 hn hs (by omega) (by omega)).mono ?_
    rintro _ w2 ⟨rfl, q2, l2, hP2, hl2, hM2⟩
    have h2 : PrgM w2 b q2 w0 sl := ⟨⟨l2, hP2, hl2⟩, hM1.trans hM2⟩
    refine ⟨rfl, hM1.sm hk0b hk0s hk0'' hM2, (h2.line hd0 (by omega) [125] (by decide) hk0b hk0s hk0'').mono ?_⟩
    rintro _ w3 ⟨rfl, hs3, q3, h3⟩
    exact ⟨rfl, hs3, by first | rfl | trivial, fin h3⟩
  · simp only [List.length_append, List.length_cons, List.length_nil]
    refine ⟨by omega, by omega, by omega, by omega, (go _ (by simp only [List.length_append, List.length_cons, List.length_nil]; omega)).mono ?_⟩
    rintro _ w4 ⟨rfl, hs4, q4, h4⟩
    exact ⟨rfl, hs4, by first | rfl | trivial, fin h4⟩
  · simp only [List.length_append, List.length_cons, List.length_nil]
    refine ⟨by omega, by omega, by omega, by omega, (go _ (by simp only [List.length_append, List.length_cons, List.length_nil]; omega)).mono ?_⟩
    rintro _ w4 ⟨rfl, hs4, q4, h4⟩
    exact ⟨rfl, hs4, by first | rfl | trivial, fin h4⟩
  · simp only [List.length_append, List.length_cons, List.length_nil]
    refine ⟨by omega, by omega, (go _ (by simp only [List.length_append, List.length_cons, List.length_nil]; omega)).mono ?_⟩
    rintro _ w4 ⟨rfl, hs4, q4, h4⟩
    exact ⟨rfl, hs4, q4, h4⟩
  · simp only [List.length_append, List.length_cons, List.length_nil]
    refine ⟨by omega, by omega, (go _ (by simp only [List.length_append, List.length_cons, List.length_nil]; omega)).mono ?_⟩
    rintro _ w4 ⟨rfl, hs4, q4, h4⟩
    exact ⟨rfl, hs4, q4, h4⟩
theorem rnode_c : ∀ D, NdC D
 | 0 => fun hx _ _ _ _ _ _ _ => hx.elim
 | D + 1 => fun hx hF hP hl hn hs hd0 hd1 => rnode_s (rnode_c D) hx hF hP hl hn hs hd0 hd1
theorem rprint_c {w : World} {F : Nat -> Prop} {D : Nat} {c : Ch} {vs : Sl} {cs : List Value} (hx : ChR false (D + 1) w F c vs cs) (hn : chN c) (hs : szVs c.vars + szN c.root <= 1048576) :
  Calls Try.prog 44 #[.agg (vs.v :: cs).toArray] w fun e w' => (∃ (s : ByteArray) (er : Int), e = .returned (.tuple #[.string s, .int .i64 er]) /\ (er = 0 -> RtC c)) /\ Only [] w w' := by
 have hroot := hx.root
 obtain ⟨en, lv, mv, kids, hcs, _⟩ := hx.root
 subst hcs
 refine (v54w vs c.root.b.k (T c.root.b.nm) (T c.root.b.ini) (T c.root.b.dft) en lv mv kids c.root.b.a (fun v w' => (∃ (s : ByteArray) (er : Int), v = .tuple #[.string s, .int .i64 er] /\ (er = 0 -> RtC c)) /\ Only [] w w') w ?_).mono (by rintro _ w' ⟨v, rfl, ⟨s, er, rfl, h⟩, h'⟩; exact ⟨⟨s, er, rfl, h⟩, h'⟩)
 unfold v54v
 intro k0 w0 hk0 hk0' hO0
 have z0 := hO0.size
 have keep : ∀ {u : World}, Only [] w u -> ChR false (D + 1) u F c vs (ndv c.root.b.k c.root.b.nm c.root.b.ini c.root.b.dft en lv mv kids c.root.b.a) := fun hO => ⟨hx.vars.keep rVr_ok (by decide) fun k _ hlt => hO.block k hlt (by simp), (rNd_ok false _).keep hx.root fun k _ hlt => hO.block k hlt (by simp)⟩
 have hnm : c.root.b.nm.length <= szN c.root := by
  obtain ⟨vv, ⟨bb, ks⟩⟩ := c
  show bb.nm.length <= szN (.mk bb ks)
  rw [szN]
  unfold szB
  omega
 refine (rok_c (keep hO0) hn (by omega)).mono ?_
 rintro _ w1 ⟨⟨r, rfl, hr⟩, hO1⟩
 have z1 := hO1.size
 have o1 := hO0.tr0 hO1
 have ap : ∀ (a c : List UInt8), T a ++ T c = T (a ++ c) := T_app
 have e1 : (ByteArray.mk #[99, 104, 97, 114, 116, 32]) = T [99, 104, 97, 114, 116, 32] := rfl
 have e2 : (ByteArray.mk #[32, 123]) = T [32, 123] := rfl
 have e3 : (ByteArray.mk #[118, 97, 114, 32]) = T [118, 97, 114, 32] := rfl
 have e4 : (ByteArray.mk #[32, 61, 32]) = T [32, 61, 32] := rfl
 have e5 : (ByteArray.mk #[59]) = T [59] := rfl
 have e6 : (ByteArray.mk #[125]) = T [125] := rfl
 refine ⟨_, rfl, hO1.same (by simp; omega), fun _ => ⟨⟨_, _, rfl, fun h => absurd h (by decide)⟩, o1⟩, fun hrt => ?_⟩
 have hrt : r = true := by simpa using hrt
 have hr := hr hrt
 rw [e1, e2, e6, ap, ap, T_size, T_size]
 refine ⟨by omega, by rw [List.length_append]; simp only [List.length_cons, List.length_nil]; omega, fun k1 w2 hk1 hk1' hO2 hB2 => ?_⟩
 have z2 := hO2.size
 have o2 := o1.tr0 hO2
 have hP2 : Prg w2 k1 Sl.nil [] := ⟨hB2, .inl ⟨rfl, rfl⟩⟩
 have hk01 : k0 ≠ k1 := by omega
 have hnl : (Sl.nil).a ≠ some ⟨k0, 0, none⟩ := fun e => by cases e
 have fin : ∀ {u : World} {q : Sl}, PrgM u k1 q w2 Sl.nil -> Only [] w u := fun h => (o2.trP h.2.1).only fun k hk => hk.elim (by omega) fun e => by cases e
 have h2 : PrgM w2 k1 Sl.nil w2 Sl.nil := ⟨⟨[], hP2, by decide⟩, Mvd.refl _ _ _⟩
 have hvl := hx.vars.1.len
 have hvs : c.vars.length <= szVs c.vars := by
  have : ∀ l : List Vr, l.length <= szVs l := fun l => by induction l with
   | nil => exact Nat.zero_le _
   | cons a l ih => rw [szVs, List.length_cons]; omega
  exact this _
 refine (h2.line (by decide) (by decide) _ (by simp only [List.length_append, List.length_cons, List.length_nil]; omega) hk01 hnl (by omega)).mono ?_
 rintro _ w3 ⟨rfl, hs3, q3, h3⟩
 obtain ⟨⟨l3, hP3, hl3⟩, hM3⟩ := id h3
 refine ⟨rfl, hs3, q3, hP3.blk, fun kv i q u => ∃ j : Nat, i = (j : Int) /\ kv + j = c.vars.length /\ j <= c.vars.length /\ PrgM u k1 q w2 Sl.nil, c.vars.length, ⟨0, rfl, by omega, Nat.zero_le _, h3⟩, ?_⟩
 rintro kv _ q w4 ⟨j, rfl, hkv, hj, h4⟩
 obtain ⟨⟨l4, hP4, hl4⟩, hM4⟩ := id h4
 refine ⟨fun hcj w5 hO5 hB5 => ?_, fun _ => ?_⟩
 · have hcj := of_decide_eq_true hcj
   have h5 := h4.only hO5
   obtain ⟨⟨l5, hP5, hl5⟩, hM5⟩ := id h5
   have hv5 : SliceF rVr 3 w5 (fun k => F k /\ k < w.heap.size) vs c.vars := SliceF.keep rVr_ok (SliceF.inHeap rVr_ok hx.vars.1 (by decide)) (by decide) fun k hk hlt => (fin h5).block k hlt (by simp)
   obtain ⟨ad, y, cs, g1, g2, g3, g4, g5, g6⟩ := hv5.get (Int.natCast_nonneg j) (by omega)
   rw [Int.toNat_natCast] at g2
   have hym := List.mem_of_getElem? g2
   have hys := szVs_mem hym
   have hyi := hn.1 y hym
   have g6 : cs = [.string (T y.n), .int .i64 y.v, .int .i64 y.a] := g6
   subst g6
   have hadb : ad.block < w.heap.size := g3.2
   have hit := itoa_le hyi
   have kp : ∀ {u u' : World} {qa qb : Sl}, PrgM u k1 qa w2 Sl.nil -> Mvd k1 qa u qb u' -> Keeps (fun k => k = k0 ∨ k < w.heap.size) u u' := fun {u u' qa qb} hp hm k hk hlt => hm.1.block k hlt fun hh => by
    rcases hh with e | e
    · omega
    · rcases hp.2.2 k e with e' | e'
      · cases e'
      · omega
   rw [e3, e4, e5]
   refine ⟨fun k => k = k0 ∨ k < w.heap.size, .inl rfl, ad, g1, .inr (by rw [addr_block]; exact hadb), _, g5.part 0 fun i v hi => one_part hi rfl, ?_, ?_, ad, g1, _, g5.part 1 fun i v hi => one_part hi rfl, (rnumA_c w5 hyi).mono ?_⟩
   · rw [T_size]; omega
   · rw [ap, T_size, List.length_append]; simp only [List.length_cons, List.length_nil]; omega
   rintro _ w6 ⟨rfl, hO6⟩
   have h6 := h5.only hO6
   obtain ⟨⟨l6, hP6, hl6⟩, hM6⟩ := id h6
   have z6 := hM6.1.size
   have z5 := hM5.1.size
   refine ⟨_, rfl, hO6.same (by simp; omega), q, hP6.blk, Keeps.only hO6, ?_, ?_, ?_⟩
   · rw [ap, ap, T_size, T_size]; simp only [List.length_append, List.length_cons, List.length_nil]; omega
   · rw [ap, ap, ap, T_size]; simp only [List.length_append, List.length_cons, List.length_nil]; omega
   rw [ap, ap, ap, ap]
   refine (rline_c hP6 hl6 (deep := 1) (by decide) (by decide) _ (by simp only [List.length_append, List.length_cons, List.length_nil]; omega)).mono ?_
   rintro _ w7 ⟨rfl, q7, l7, hP7, hl7, hM7⟩
   exact ⟨rfl, hM6.sm hk01 hnl (by omega) hM7, q7, hP7.blk, kp h6 hM7, kv - 1, by omega, j + 1, by rw [wr' (by omega) (by omega)]; rfl, by omega, by omega, ⟨l7, hP7, hl7⟩, hM6.trans hM7⟩
 · have hr4 : rNd false (D + 1) w4 (fun k => F k /\ k < w.heap.size) c.root (ndv c.root.b.k c.root.b.nm c.root.b.ini c.root.b.dft en lv mv kids c.root.b.a) := (rNd_ok false _).keep ((rNd_ok false _).inHeap hroot) fun k _ hlt => (fin h4).block k hlt (by simp)
   have hnn := nNd_sz c.root
   refine (rbody_c (rnode_c D) hr4 (fun k hk => by have := hk.2; omega) hP4 hl4 hn.2 (by omega) (by decide) (by omega)).mono ?_
   rintro _ w8 ⟨rfl, q8, l8, hP8, hl8, hM8⟩
   have h8 : PrgM w8 k1 q8 w2 Sl.nil := ⟨⟨l8, hP8, hl8⟩, hM4.trans hM8⟩
   refine ⟨rfl, hM4.sm hk01 hnl (by omega) hM8, q8, hP8.blk, (h8.line (by decide) (by decide) [125] (by decide) hk01 hnl (by omega)).mono ?_⟩
   rintro _ w9 ⟨rfl, hs9, q9, h9⟩
   obtain ⟨⟨l9, hP9, hl9⟩, hM9⟩ := id h9
   exact ⟨rfl, hs9, q9, hP9.blk, fun _ => ⟨⟨_, _, rfl, fun h => absurd h (by decide)⟩, fin h9⟩, fun _ => ⟨l9, hP9.buf.bytes, ⟨_, _, rfl, fun _ => hr⟩, fin h9⟩⟩
end Go.Proofs.Ytddfmhccaapgjaa.Con
namespace Go.Proofs.Ytddfmhccaapgjaa.Con
open Go Go.RowKit Go.Kt Go.Kt.V Go.Proofs.Ytddfmhccaapgjaa.Vc
set_option linter.unusedSimpArgs false
set_option linter.unusedVariables false
set_option maxHeartbeats 4000000
theorem ChR.off {d : Nat} {w : World} {F : Nat -> Prop} {c : Ch} {vs : Sl} {cs : List Value} (h : ChR true d w F c vs cs) : ChR false d w F c vs cs := ⟨h.vars.off fun _ _ _ h => h, rNd_off h.root⟩
end Go.Proofs.Ytddfmhccaapgjaa.Con
namespace Go.Proofs.Ytddfmhccaapgjaa.Con
open Go Go.RowKit Go.Kt Go.Kt.V Go.Proofs.Ytddfmhccaapgjaa.Vc
set_option linter.unusedSimpArgs false
set_option linter.unusedVariables false
set_option maxHeartbeats 4000000
set_option maxRecDepth 100000
def spv (x : Spo) : List Value := [.int .i64 x.k, .string (T x.nm), .int .i64 x.pa, .int .i64 x.dp, .int .i64 x.en]
def rSp : Rp Spo := fun _ _ x cs => cs = spv x
theorem rSp_ok : rSp.Ok := ⟨fun h _ => h, fun h => h, fun h _ => h, fun h => by
  unfold rSp spv at h
  subst h
  intro v hv
  simp only [List.mem_cons, List.not_mem_nil, or_false] at hv
  rcases hv with rfl | rfl | rfl | rfl | rfl <;> rfl⟩
abbrev OwnSp (B : Nat) (w : World) (s : Sl) (xs : List Spo) : Prop := Own rSp 5 44 B w (fun _ => False) s xs
theorem OwnSp.of {B : Nat} {w : World} {F : Nat -> Prop} {s : Sl} {xs : List Spo} (h : Own rSp 5 44 B w F s xs) : OwnSp B w s xs := by
 rcases h with ⟨rfl, rfl⟩ | ⟨g, css, tail, h1, h2, h4, h5, h6, h7, h9, h8⟩
 · exact .inl ⟨rfl, rfl⟩
 · exact .inr ⟨g, css, tail, h1, h2, h4, h5, h6, h7, h9, All2.impM (fun x c _ hc => hc) h8⟩
theorem OwnSp.keepP {B : Nat} {w w' : World} {G : Nat -> Prop} {s : Sl} {xs : List Spo} (h : OwnSp B w s xs) (hO : OnlyP G w w') (hG : ∀ k, B <= k -> s.a = some ⟨k, 0, none⟩ -> ¬ G k) : OwnSp B w' s xs :=
 h.keep rSp_ok fun k hk hlt => hO.block k hlt (hk.elim (fun h => h.elim) fun h => hG k h.1 h.2)
section
variable {w : World} {F : Nat -> Prop} {l : Sl} {xs : List Spo}
theorem sp_at (h : SliceF rSp 5 w F l xs) {i : Nat} {x : Spo} (hx : xs[i]? = some x) : ∃ ad, SlAt l (i : Int) 5 ad /\ Cells w ad (spv x) /\ Cells w (ad.add 2) [.int .i64 x.pa] /\ Cells w (ad.add 3) [.int .i64 x.dp] /\ Cells w (ad.add 4) [.int .i64 x.en] := by
 have hlt := (List.getElem?_eq_some_iff.1 hx).1
 have hl := h.len
 obtain ⟨ad, y, cs, g1, g2, g3, g4, g5, g6⟩ := h.get (Int.natCast_nonneg i) (by omega)
 rw [Int.toNat_natCast, hx] at g2
 injection g2 with g2
 subst g2
 have g6 : cs = spv x := g6
 subst g6
 have one : ∀ (n : Nat) (v : Value), (spv x)[n]? = some v -> Cells w (ad.add n) [v] := fun n v hv j u hu => by
  cases j with
  | zero =>
   rw [List.getElem?_cons_zero, Option.some.injEq] at hu
   subst hu
   have := g5 n v hv
   rw [addr_add, Nat.add_zero]
   exact this
  | succ j => simp at hu
 exact ⟨ad, g1, g5, one 2 _ rfl, one 3 _ rfl, one 4 _ rfl⟩
def hasB (xs : List Spo) (n : Int) : Bool := decide (n >= 0) && decide (n < (xs.length : Int))
theorem hasB_iff {n : Int} : hasB xs n = true ↔ Has xs n := by
 unfold hasB Has
 rw [Bool.and_eq_true, decide_eq_true_iff, decide_eq_true_iff]
theorem has_c (h : SliceF rSp 5 w F l xs) (n : Int) : Calls Try.prog 48 #[l.v, .int .i64 n] w fun e w' => e = .returned (.bool (hasB xs n)) /\ w' = w := by
 refine ret (v1w l n (fun v w' => v = .bool (hasB xs n) /\ w' = w) w ?_)
 unfold v1v
 rw [h.len]
 exact ⟨rfl, rfl⟩
abbrev OwnI (B : Nat) (w : World) (s : Sl) (l : List Int) : Prop := Own rInt 1 3 B w (fun _ => False) s l
theorem OwnI.of {B : Nat} {w : World} {F : Nat -> Prop} {s : Sl} {l : List Int} (h : Own rInt 1 3 B w F s l) : OwnI B w s l := by
 rcases h with ⟨rfl, rfl⟩ | ⟨g, css, tail, h1, h2, h4, h5, h6, h7, h9, h8⟩
 · exact .inl ⟨rfl, rfl⟩
 · exact .inr ⟨g, css, tail, h1, h2, h4, h5, h6, h7, h9, All2.impM (fun x c _ hc => hc) h8⟩
theorem addI (w0 : World) {u : World} {s : Sl} {is : List Int} (h : OwnI w0.heap.size u s is) (hO : Only [] w0 u) (n : Int) (hn : InI n) (hm : is.length <= 2000000) :
  ∃ y w1, (Instr.buildSlice 30 1 #[.mk 0 (.int .i64 n)]).run Try.prog u = .ok (Sl.v y) w1 /\ Only [] u w1 /\ ∃ s' w2, (Builtin.append_ #[30, 30] 30 #[Sl.v s, Sl.v y]).run Try.prog w1 = .ok (Sl.v s') w2 /\ OwnI w0.heap.size w2 s' (is ++ [n]) /\ Only [] w0 w2 /\ OnlyP (fun k => w0.heap.size <= k) u w2 := by
 obtain ⟨y, w1, k1, k3, s', w2, g1, g2, ⟨gs, g3, g4⟩, g5⟩ := app_one (P := Try.prog) (t := 30) (ty := 30) (e := 3) (i := Try.t3) (bytes := 8) (size := 1) (r := rInt) (G := fun _ => False) (v := .int .i64 n) (x := n) (by kernel_rfl) (by kernel_rfl) rfl rfl rfl rfl (by decide) (by decide) (by decide) rInt_ok h hO.size rfl ⟨rfl, hn⟩ (fun _ h => h.elim) (by omega)
 refine ⟨y, w1, k1, k3, s', w2, g1, OwnI.of g2, ?_, k3.trP (g3.p fun g hg => .inl (g4 g hg).2.1)⟩
 exact ((hO.tr0 k3).trP (g3.p (F := fun k => w0.heap.size <= k) fun g hg => .inl (g4 g hg).2.1)).only fun k hk => hk
theorem kids_c (h : SliceF rSp 5 w F l xs) (hF : Fo xs) {n : Nat} {x : Spo} (hx : xs[n]? = some x) (hm : xs.length <= 1000) : Calls Try.prog 39 #[l.v, .int .i64 (n : Int)] w fun e w' => (∃ (s : Sl), e = .returned (Sl.v s) /\ OwnI w.heap.size w' s (kidsOf xs n xs.length)) /\ Only [] w w' := by
 refine (v0w l n (fun v w' => (∃ (s : Sl), v = Sl.v s /\ OwnI w.heap.size w' s (kidsOf xs n xs.length)) /\ Only [] w w') w ?_).mono ?_
 · unfold v0v
   refine (has_c h n).mono ?_
   rintro _ u ⟨rfl, hu⟩
   obtain rfl : w = u := hu.symm
   have hnl := get_lt hx
   have hb : hasB xs (n : Int) = true := hasB_iff.2 ⟨by omega, by omega⟩
   rw [hb]
   refine ⟨_, rfl, fun hc => (by cases hc), fun _ => ?_⟩
   have hup := hF.up n x hx
   have hen : ∃ e : Nat, x.en = e := ⟨x.en.toNat, by omega⟩
   obtain ⟨e, he⟩ := hen
   refine ⟨fun kv q i w' => ∃ k : Nat, i = (k : Int) /\ n < k /\ k <= e /\ kv + k = xs.length /\ OwnI w.heap.size w' q (kidsOf xs n k) /\ (∀ (j : Nat) u, n < j -> j < k -> xs[j]? = some u -> u.en <= (k : Int)) /\ Only [] w w', xs.length - (n + 1), ⟨n + 1, by rw [wr' (by omega) (by omega)]; rfl, by omega, by omega, by omega, by rw [hF.kid0 hx]; exact Own.nil _ _ _ _ _ _, fun j u h1 h2 => by omega, Only.refl _ _⟩, ?_⟩
   rintro kv q _ w1 ⟨k, rfl, hnk, hke, hkv, hS, hbn, hO⟩
   obtain ⟨ad, a1, _, _, _, a5⟩ := sp_at (SliceF.only rSp_ok (by decide) h hO (by simp)) hx
   refine ⟨ad, a1, x.en, a5, fun hc => ?_, fun hc => ?_⟩
   · have hc := of_decide_eq_true hc
     obtain ⟨y, hy⟩ := get_at (xs := xs) (i := k) (by omega)
     have hlen : (kidsOf xs n k).length <= k := by
      unfold kidsOf
      rw [List.length_map]
      exact Nat.le_trans (List.length_filter_le _ _) (by rw [List.length_range]; exact Nat.le_refl _)
     obtain ⟨y1, w2, k1, k3, s', w3, g1, g2, g3, g4⟩ := addI w hS hO k ⟨by omega, by omega⟩ (by omega)
     obtain ⟨ad', b1, _, _, _, b5⟩ := sp_at (SliceF.only rSp_ok (by decide) h g3 (by simp)) hy
     have hyu := hF.up k y hy
     have hye := hF.lam k hx hy hnk hc
     obtain ⟨m, hm'⟩ : ∃ m : Nat, y.en = m := ⟨y.en.toNat, by omega⟩
     refine ⟨y1, w2, k1, s', w3, g1, ad', b1, y.en, b5, kv - (m - k), by omega, m, hm', by omega, by omega, by omega, ?_, hF.kid_next hy hm' hbn, g3⟩
     rw [hF.kid_step hx hy hnk hc hm' hbn]
     exact g2
   · have hc := of_decide_eq_false hc
     have : k = e := by omega
     subst this
     exact ⟨⟨q, rfl, by rw [hF.kid_end hx he]; exact hS⟩, hO⟩
 · rintro _ w' ⟨v, rfl, ⟨s, rfl, h1⟩, h4⟩
   exact ⟨⟨s, rfl, h1⟩, h4⟩
end
end Go.Proofs.Ytddfmhccaapgjaa.Con
namespace Go.Proofs.Ytddfmhccaapgjaa.Con
open Go Go.RowKit Go.Kt Go.Kt.V Go.Proofs.Ytddfmhccaapgjaa.Vc
set_option linter.unusedSimpArgs false
set_option linter.unusedVariables false
set_option maxHeartbeats 1600000
set_option maxRecDepth 100000
def Gr (s : Sl) (w : World) (s' : Sl) (w' : World) : Prop := OnlyP (fun k => s.a = some ⟨k, 0, none⟩) w w' /\ ∀ k, s'.a = some ⟨k, 0, none⟩ -> s.a = some ⟨k, 0, none⟩ ∨ w.heap.size <= k
theorem Gr.trans {s s' s'' : Sl} {w w' w'' : World} (h : Gr s w s' w') (k : Gr s' w' s'' w'') : Gr s w s'' w'' := by
 have z := h.1.size
 refine ⟨h.1.trans k.1 fun x hx => ?_, fun x hx => ?_⟩
 · rcases h.2 x hx with e | e
   · exact .inl e
   · exact .inr e
 · rcases k.2 x hx with e | e
   · exact h.2 x e
   · exact .inr (by omega)
theorem Gr.only {s : Sl} {w w' : World} (h : Only [] w w') : Gr s w s w' := ⟨h.p0, fun _ h => .inl h⟩
theorem rlay_c (t : Bool) : ∀ (D : Nat) {w : World} {F : Nat -> Prop} {x : Nd} {cs : List Value} {B : Nat} {s : Sl} {xs : List Spo} {pa dp : Int}, rNd t D w F x cs -> (∀ k, F k -> k < B) -> OwnSp B w s xs -> B <= w.heap.size ->
  xs.length + nNd x <= 1000000 -> 0 <= dp -> dp + nNd x <= 1000000 ->
  Calls Try.prog 33 #[s.v, .agg cs.toArray, .int .i64 pa, .int .i64 dp] w fun e w' => ∃ s', e = .returned (Sl.v s') /\ OwnSp B w' s' (xs ++ flN xs.length pa dp x) /\ Gr s w s' w'
 | 0, _, _, _, _, _, _, _, _, _, h, _, _, _, _, _, _ => h.elim
 | D + 1, w, F, .mk bb ks, cs, B, s, xs, pa, dp, ⟨en, lv, mv, kids, hcs, _, hk0⟩, hF, hS, hBw, hn, h0, hd => by
  have hk := hk0.1
  clear hk0
  dsimp only [Nd.kids, Nd.b] at hk hcs
  subst hcs
  rw [nNd] at hn hd
  have hkl := hk.len
  have hnn := nNds_len ks
  refine (v74w s bb.k (T bb.nm) (T bb.ini) (T bb.dft) en lv mv kids bb.a pa dp (fun v w' => ∃ s', v = Sl.v s' /\ OwnSp B w' s' (xs ++ flN xs.length pa dp (.mk bb ks)) /\ Gr s w s' w') w ?_).mono (by rintro _ w' ⟨v, rfl, s', rfl, h⟩; exact ⟨s', rfl, h⟩)
  unfold v74v
  intro k0 w0 hk0 hk0' hO0
  have z0 := hO0.size
  have hln : s.n = xs.length := hS.len
  have hS0 : OwnSp B w0 s xs := hS.keepP hO0.p0 fun _ _ _ h => h
  obtain ⟨y, w2, k1, k3, s3, w3, g1, g2, ⟨gs, g3, g4⟩, g5⟩ := app_one (P := Try.prog) (t := 32) (ty := 32) (e := 44) (i := Try.t44) (bytes := 48) (size := 5) (r := rSp) (G := fun _ => False) (v := .agg #[.int .i64 bb.k, .string (T bb.nm), .int .i64 pa, .int .i64 dp, .int .i64 0]) (x := ⟨bb.k, bb.nm, pa, dp, 0⟩) (by kernel_rfl) (by kernel_rfl) rfl rfl rfl rfl (by decide) (by decide) (by decide) rSp_ok hS0 (by omega) rfl rfl (fun _ h => h.elim) (by omega)
  have z2 := k3.size
  have z3 := g3.size
  have hk0s : s.a ≠ some ⟨k0, 0, none⟩ := fun e => by have := (hS.blk e).2; dsimp only at this; omega
  have m3 : Gr s w s3 w3 := by
   refine ⟨(hO0.tr0 k3).trP (g3.p (F := fun k => s.a = some ⟨k, 0, none⟩) fun g hg => .inl (g4 g hg).1), fun k hk => ?_⟩
   rcases g5 with e | ⟨g, e, h⟩
   · exact .inl (by rw [<- e]; exact hk)
   · rw [e] at hk
     injection hk with hk
     injection hk with hk
     exact .inr (by omega)
  have n3 : ∀ k, s3.a = some ⟨k, 0, none⟩ -> k ≠ k0 := fun k hk e => by
   subst e
   rcases g5 with e | ⟨g, e, h⟩
   · exact hk0s (by rw [<- e]; exact hk)
   · rw [e] at hk
     injection hk with hk
     injection hk with hk
     omega
  have hS3 : OwnSp B w3 s3 (xs ++ [⟨bb.k, bb.nm, pa, dp, 0⟩]) := OwnSp.of g2
  have hk' : ∀ {u : World} {q : Sl}, Gr s w q u -> SliceF (rNd t D) 9 u F kids ks := fun hm => SliceF.onlyP (rNd_ok t D) (by decide) hk hm.1 fun k hFk _ h => by
   have := hF k hFk
   have := (hS.blk h).1
   dsimp only at this
   omega
  refine ⟨y, w2, k1, k3.same (by simp; omega), s3, w3, g1, g3.same fun x hx => ⟨by simp only [List.mem_singleton] at hx; omega, fun h => by simp only [List.mem_singleton] at hx; subst hx; exact hk0s (g4 _ h).1⟩, fun kv q i w' => ∃ j : Nat, i = (j : Int) /\ kv + j = ks.length /\ j <= ks.length /\ OwnSp B w' q (xs ++ ⟨bb.k, bb.nm, pa, dp, 0⟩ :: flL (xs.length + 1) xs.length (dp + 1) (ks.take j)) /\ Gr s w q w' /\ w3.heap.size <= w'.heap.size /\ ∀ k, q.a = some ⟨k, 0, none⟩ -> k ≠ k0, ks.length, ⟨0, rfl, by omega, Nat.zero_le _, by rw [List.take_zero, flL]; exact hS3, m3, Nat.le_refl _, n3⟩, ?_⟩
  rintro kv q _ w5 ⟨j, rfl, hkv, hjl, hS5, m5, z5, n5⟩
  constructor
  · intro hc
    have hj : j < ks.length := by have := of_decide_eq_true hc; omega
    obtain ⟨y, hy⟩ : ∃ y, ks[j]? = some y := ⟨_, List.getElem?_eq_getElem hj⟩
    obtain ⟨ad, y', ds, a1, a2, a3, a4, a5, a6⟩ := (hk' m5).get (Int.natCast_nonneg j) (by omega)
    rw [Int.toNat_natCast, hy] at a2
    injection a2 with a2
    subst a2
    have a6' := a6
    obtain ⟨D', rfl⟩ : ∃ D', D = D' + 1 := by
     cases D with
     | zero => exact a6.elim
     | succ D' => exact ⟨D', rfl⟩
    obtain ⟨en', lv', mv', kids', rfl, _⟩ := a6'
    have hle := nNds_take hy
    have hx1 : (xs ++ ⟨bb.k, bb.nm, pa, dp, 0⟩ :: flL (xs.length + 1) xs.length (dp + 1) (ks.take j)).length = xs.length + 1 + nNds (ks.take j) := by
     rw [List.length_append, List.length_cons, flL_len]; omega
    refine ⟨ad, a1, _, _, _, _, en', lv', mv', kids', _, a5, ?_⟩
    rw [wr' (by omega) (by omega), hln]
    refine (rlay_c t (D' + 1) (pa := ((xs.length : Nat) : Int)) a6 (s := q) (xs := xs ++ ⟨bb.k, bb.nm, pa, dp, 0⟩ :: flL (xs.length + 1) xs.length (dp + 1) (ks.take j)) (dp := dp + 1) hF hS5 (by have := hO0.size; omega) (by rw [hx1]; omega) (by omega) (by omega)).mono ?_
    rintro _ w7 ⟨q7, rfl, hS7, m7⟩
    have z7 := m7.1.size
    refine ⟨q7, rfl, m7.1.same fun x hx => ?_, kv - 1, by omega, j + 1, by rw [wr' (by omega) (by omega)]; rfl, by omega, by omega, ?_, m5.trans m7, by omega, fun k hk e => ?_⟩
    · simp only [List.mem_singleton] at hx
      subst hx
      exact ⟨by omega, fun h => n5 _ h rfl⟩
    · have e : ks.take (j + 1) = ks.take j ++ [y] := by rw [List.take_add_one, hy]; rfl
      rw [e, flL_app, flL, flL, List.append_nil]
      rw [hx1, List.append_assoc, List.cons_append] at hS7
      exact hS7
    · subst e
      rcases m7.2 _ hk with h | h
      · exact n5 _ h rfl
      · omega
  · intro hc
    have hje : j = ks.length := by have := of_decide_eq_false hc; omega
    subst hje
    rw [List.take_of_length_le (Nat.le_refl _)] at hS5
    have hat : (xs ++ ⟨bb.k, bb.nm, pa, dp, 0⟩ :: flL (xs.length + 1) xs.length (dp + 1) ks)[xs.length]? = some ⟨bb.k, bb.nm, pa, dp, 0⟩ := by
     rw [List.getElem?_append_right (Nat.le_refl _), Nat.sub_self]; rfl
    obtain ⟨g, cells, cs', p1, p2, p3, p4, p5, p6, p7⟩ := Own.set1 rSp_ok hS5 hat
    have hcs' : cs' = spv ⟨bb.k, bb.nm, pa, dp, 0⟩ := p6
    subst hcs'
    have hql : q.n = xs.length + 1 + nNds ks := by rw [hS5.len, List.length_append, List.length_cons, flL_len]; omega
    obtain ⟨p8, p9⟩ := p7 4 (.int .i64 (q.n : Int)) ⟨bb.k, bb.nm, pa, dp, (q.n : Int)⟩ (fun _ => False) (by decide) rfl fun _ h => h.elim
    rw [<- hln] at p2
    refine ⟨_, p2, g, xs.length * 5 + 4, cells, _, by rw [addr_lit, hln], p3, by rw [<- hln] at p8 ⊢; exact p8, fun e => n5 g p1 e.symm, fun w9 hO9 hB9 => ⟨q, rfl, ?_, ?_⟩⟩
    · have := p9 w9 hO9 hB9
      rw [List.set_append_right _ _ (Nat.le_refl _), Nat.sub_self, List.set_cons_zero] at this
      rw [flN]
      have e : (q.n : Int) = ((xs.length + 1 + nNds ks : Nat) : Int) := by rw [hql]
      rw [e] at this
      exact this
    · refine m5.trans ⟨hO9.p fun k hk => ?_, fun k hk => .inl hk⟩
      simp only [List.mem_singleton] at hk
      subst hk
      exact .inl p1
theorem rLay_c {w : World} {F : Nat -> Prop} {D : Nat} {c : Ch} {vs : Sl} {cs : List Value} (hx : ChR false (D + 1) w F c vs cs) (hm : nNd c.root <= 64) :
  Calls Try.prog 17 #[.agg (vs.v :: cs).toArray] w fun e w' => (∃ s, e = .returned (Sl.v s) /\ OwnSp w.heap.size w' s (flatC c)) /\ Only [] w w' := by
 obtain ⟨en, lv, mv, kids, hcs, _⟩ := hx.root
 subst hcs
 refine (v71w vs c.root.b.k (T c.root.b.nm) (T c.root.b.ini) (T c.root.b.dft) en lv mv kids c.root.b.a (fun v w' => (∃ s, v = Sl.v s /\ OwnSp w.heap.size w' s (flatC c)) /\ Only [] w w') w ?_).mono (by rintro _ w' ⟨v, rfl, ⟨s, rfl, h⟩, h'⟩; exact ⟨⟨s, rfl, h⟩, h'⟩)
 unfold v71v
 intro k0 w0 hk0 hk0' hO0
 have z0 := hO0.size
 have hr0 : rNd false (D + 1) w0 (fun k => k < w.heap.size) c.root (ndv c.root.b.k c.root.b.nm c.root.b.ini c.root.b.dft en lv mv kids c.root.b.a) :=
  (rNd_ok false _).keep ((rNd_ok false _).mono ((rNd_ok false _).inHeap hx.root) fun k hk => hk.2) fun k _ hlt => hO0.block k hlt (by simp)
 refine (rlay_c false (D + 1) (B := w.heap.size) (s := Sl.nil) (xs := []) (pa := -1) (dp := 0) hr0 (fun k hk => hk) (Own.nil _ _ _ _ _ _) z0 (by rw [List.length_nil]; omega) (by decide) (by omega)).mono ?_
 rintro _ w1 ⟨s', rfl, hS, hG⟩
 have hO1 : Only [] w0 w1 := hG.1.only fun k hk => by cases hk
 exact ⟨s', rfl, hO1.same (by simp; omega), ⟨s', rfl, by rw [List.nil_append] at hS; exact hS⟩, hO0.tr0 hO1⟩
theorem rFlat_c {w : World} {F : Nat -> Prop} {D : Nat} {c : Ch} {vs : Sl} {cs : List Value} (hx : ChR false (D + 1) w F c vs cs) (hn : chN c) (hs : szVs c.vars + szN c.root <= 1048576) :
  Calls Try.prog 28 #[.agg (vs.v :: cs).toArray] w fun e w' => (∃ (s : Sl) (er : Int), e = .returned (.tuple #[Sl.v s, .int .i64 er]) /\ (er = 0 -> RtC c /\ OwnSp w.heap.size w' s (flatC c))) /\ Only [] w w' := by
 obtain ⟨en, lv, mv, kids, hcs, _⟩ := hx.root
 subst hcs
 refine (v69w vs c.root.b.k (T c.root.b.nm) (T c.root.b.ini) (T c.root.b.dft) en lv mv kids c.root.b.a (fun v w' => (∃ (s : Sl) (er : Int), v = .tuple #[Sl.v s, .int .i64 er] /\ (er = 0 -> RtC c /\ OwnSp w.heap.size w' s (flatC c))) /\ Only [] w w') w ?_).mono (by rintro _ w' ⟨v, rfl, ⟨s, er, rfl, h⟩, h'⟩; exact ⟨⟨s, er, rfl, h⟩, h'⟩)
 unfold v69v
 intro k0 w0 hk0 hk0' hO0
 have z0 := hO0.size
 have keep : ∀ {u : World}, Only [] w u -> ChR false (D + 1) u F c vs (ndv c.root.b.k c.root.b.nm c.root.b.ini c.root.b.dft en lv mv kids c.root.b.a) := fun hO => ⟨hx.vars.keep rVr_ok (by decide) fun k _ hlt => hO.block k hlt (by simp), (rNd_ok false _).keep hx.root fun k _ hlt => hO.block k hlt (by simp)⟩
 refine (rprint_c (keep hO0) hn hs).mono ?_
 rintro _ w1 ⟨⟨s, er, rfl, he⟩, hO1⟩
 have z1 := hO1.size
 have o1 := hO0.tr0 hO1
 refine ⟨_, _, rfl, hO1.same (by simp; omega), fun hc => ⟨⟨_, _, rfl, fun h => absurd h (by simpa using hc)⟩, o1⟩, fun hc => ?_⟩
 have hc : er = 0 := by simpa using hc
 refine (rLay_c (keep o1) (he hc).1).mono ?_
 rintro _ w2 ⟨⟨s2, rfl, hS⟩, hO2⟩
 exact ⟨_, rfl, hO2.same (by simp; omega), ⟨s2, 0, rfl, fun _ => ⟨he hc, Own.low hS (by omega)⟩⟩, o1.tr0 hO2⟩
end Go.Proofs.Ytddfmhccaapgjaa.Con
namespace Go.Proofs.Ytddfmhccaapgjaa.Con
open Go Go.RowKit Go.Kt Go.Kt.V Go.Proofs.Ytddfmhccaapgjaa.Vc
set_option linter.unusedSimpArgs false
set_option linter.unusedVariables false
set_option maxHeartbeats 800000
set_option maxRecDepth 100000
structure Lk (Z : Prop) (w : World) (b : Nat) (F : Nat -> Prop) (vs : Sl) (vars : List Vr) (nc : List Value) (sl : Sl) (xs : List Spo) : Prop where
 blk : ∃ f1 f2 : Int, Blk w b 66 (vs.v :: (nc ++ [sl.v, .int .i64 f1, .int .i64 f2])) /\ (f1 = 0 -> Z)
 nc9 : nc.length = 9
 vr : SliceF rVr 3 w F vs vars
 sp : SliceF rSp 5 w F sl xs
 nF : ∀ k, F k -> k ≠ b
section
variable {Z Y : Prop} {w w' : World} {b : Nat} {F : Nat -> Prop} {vs sl : Sl} {vars : List Vr} {nc : List Value} {xs : List Spo}
theorem Lk.only (h : Lk Z w b F vs vars nc sl xs) (hO : Only [] w w') : Lk Z w' b F vs vars nc sl xs := by
 obtain ⟨f1, f2, hB, hZ⟩ := h.blk
 exact ⟨⟨f1, f2, hO.blk hB (by simp), hZ⟩, h.nc9, SliceF.only rVr_ok (by decide) h.vr hO (by simp), SliceF.only rSp_ok (by decide) h.sp hO (by simp), h.nF⟩
theorem Lk.turn (h : Lk Y w b F vs vars nc sl xs) (hO : Only [b] w w') {f1 f2 : Int} (hB : Blk w' b 66 (vs.v :: (nc ++ [sl.v, .int .i64 f1, .int .i64 f2]))) (hz : f1 = 0 -> Z) : Lk Z w' b F vs vars nc sl xs :=
 ⟨⟨f1, f2, hB, hz⟩, h.nc9, SliceF.only rVr_ok (by decide) h.vr hO fun k hk _ hm => h.nF k hk (by simpa using hm), SliceF.only rSp_ok (by decide) h.sp hO fun k hk _ hm => h.nF k hk (by simpa using hm), h.nF⟩
theorem Lk.imp (h : Lk Z w b F vs vars nc sl xs) (hy : Z -> Y) : Lk Y w b F vs vars nc sl xs := by
 obtain ⟨f1, f2, hB, hZ⟩ := h.blk
 exact ⟨⟨f1, f2, hB, fun e => hy (hZ e)⟩, h.nc9, h.vr, h.sp, h.nF⟩
theorem Lk.lb (h : Lk Z w b F vs vars nc sl xs) : b < w.heap.size := by
 obtain ⟨f1, f2, hB, hZ⟩ := h.blk
 exact hB.lt
theorem rhistory_c (w : World) (k : Int) : Calls Try.prog 37 #[.int .i64 k] w fun e w' => e = .returned (.bool ((k == 3) || (k == 4))) /\ w' = w := by
 refine ret (v76w k (fun v w' => v = .bool ((k == 3) || (k == 4)) /\ w' = w) w ?_)
 unfold v76v
 exact ⟨rfl, rfl⟩
theorem rfind_c (h : SliceF rSp 5 w F sl xs) (hm : xs.length <= 1000) (s : ByteArray) : Calls Try.prog 30 #[sl.v, .string s] w fun e w' => (∃ i : Int, e = .returned (.int .i64 i) /\ (i = -1 ∨ ∃ j : Nat, i = (j : Int) /\ j < xs.length)) /\ w' = w := by
 refine (v68w sl s (fun v w' => (∃ i : Int, v = .int .i64 i /\ (i = -1 ∨ ∃ j : Nat, i = (j : Int) /\ j < xs.length)) /\ w' = w) w ?_).mono (by rintro _ w' ⟨v, rfl, ⟨i, rfl, h⟩, h'⟩; exact ⟨⟨i, rfl, h⟩, h'⟩)
 unfold v68v
 have hl := h.len
 refine ⟨fun kv i u => ∃ j : Nat, i = (j : Int) /\ kv + j = xs.length /\ j <= xs.length /\ w = u, xs.length, ⟨0, rfl, by omega, Nat.zero_le _, rfl⟩, ?_⟩
 rintro kv _ _ ⟨j, rfl, hkv, hj, rfl⟩
 refine ⟨fun hc => ?_, fun hc => ⟨⟨-1, rfl, .inl rfl⟩, rfl⟩⟩
 have hc := of_decide_eq_true hc
 obtain ⟨y, hy⟩ := get_at (xs := xs) (i := j) (by omega)
 obtain ⟨ad, a1, a2, _⟩ := sp_at h hy
 exact ⟨ad, a1, _, a2.part 1 fun i v hi => one_part hi rfl, fun _ => ⟨⟨_, rfl, .inr ⟨j, rfl, by omega⟩⟩, rfl⟩, fun _ => ⟨kv - 1, by omega, j + 1, by rw [wr' (by omega) (by omega)]; rfl, by omega, by omega, rfl⟩⟩
theorem lkwrong_c (h : Lk Z w b F vs vars nc sl xs) (e at_ : Int) (he : e ≠ 0) : Calls Try.prog 31 #[.pointer (some ⟨b, 0, none⟩), .int .i64 e, .int .i64 at_] w fun r w' => r = .returned (.tuple #[]) /\ Lk False w' b F vs vars nc sl xs /\ Only [b] w w' := by
 refine ret (v85w ⟨b, 0, none⟩ e at_ (fun v w' => v = .tuple #[] /\ Lk False w' b F vs vars nc sl xs /\ Only [b] w w') w ?_)
 unfold v85v
 obtain ⟨f1, f2, hB, hZ⟩ := h.blk
 have h9 := h.nc9
 have hg : (vs.v :: (nc ++ [sl.v, .int .i64 f1, .int .i64 f2]))[11]? = some (.int .i64 f1) := by
  rw [List.getElem?_cons_succ, List.getElem?_append_right (by omega), h9]; rfl
 refine ⟨f1, Blk.at1 hB 11 hg, fun _ => ⟨b, 11, _, _, rfl, hB, by simp; omega, fun w0 hO hB' => ⟨rfl, h.turn (f1 := e) (f2 := at_) hO ?_ he, hO⟩⟩, fun hf => ⟨rfl, ⟨⟨f1, f2, hB, fun e => by subst e; simp at hf⟩, h.nc9, h.vr, h.sp, h.nF⟩, Only.refl _ _⟩⟩
 have e1 : splice (vs.v :: (nc ++ [sl.v, .int .i64 f1, .int .i64 f2])) 11 [.int .i64 e, .int .i64 at_] = vs.v :: (nc ++ [sl.v, .int .i64 e, .int .i64 at_]) := by
  unfold splice
  rw [List.take_succ_cons, List.take_append, h9, List.take_of_length_le (by omega)]
  simp [h9]
 rw [e1] at hB'
 exact hB'
end
section
variable {Z : Prop} {w w' : World} {b : Nat} {F : Nat -> Prop} {vs sl : Sl} {vars : List Vr} {nc : List Value} {xs : List Spo}
theorem lkvar_c (h : Lk Z w b F vs vars nc sl xs) (hm : vars.length <= 8388608) (s : ByteArray) : Calls Try.prog 65 #[.pointer (some ⟨b, 0, none⟩), .string s] w fun e w' => (∃ r : Bool, e = .returned (.bool r)) /\ w' = w := by
 refine (v84w ⟨b, 0, none⟩ s (fun v w' => (∃ r : Bool, v = .bool r) /\ w' = w) w ?_).mono (by rintro _ w' ⟨v, rfl, ⟨i, rfl⟩, h'⟩; exact ⟨⟨i, rfl⟩, h'⟩)
 unfold v84v
 obtain ⟨f1, f2, hB, hZ⟩ := h.blk
 have hl := h.vr.len
 refine ⟨fun kv i u => ∃ j : Nat, i = (j : Int) /\ kv + j = vars.length /\ j <= vars.length /\ w = u, vars.length, ⟨0, rfl, by omega, Nat.zero_le _, rfl⟩, ?_⟩
 rintro kv _ _ ⟨j, rfl, hkv, hj, rfl⟩
 refine ⟨vs, Blk.at1 hB 0 rfl, fun hc => ?_, fun hc => ⟨⟨false, rfl⟩, rfl⟩⟩
 have hc := of_decide_eq_true hc
 obtain ⟨ad, y, cs, g1, g2, g3, g4, g5, g6⟩ := h.vr.get (Int.natCast_nonneg j) (by omega)
 have g6 : cs = [.string (T y.n), .int .i64 y.v, .int .i64 y.a] := g6
 subst g6
 exact ⟨vs, Blk.at1 hB 0 rfl, ad, g1, _, g5.part 0 fun i v hi => one_part hi rfl, fun _ => ⟨⟨_, rfl⟩, rfl⟩, fun _ => ⟨kv - 1, by omega, j + 1, by rw [wr' (by omega) (by omega)]; rfl, by omega, by omega, rfl⟩⟩
theorem Lk.row (h : Lk Z w b F vs vars nc sl xs) : Cells w ((⟨b, 0, none⟩ : Addr).add 10) [sl.v] := by
 obtain ⟨f1, f2, hB, hZ⟩ := h.blk
 have h9 := h.nc9
 exact Blk.at1 hB 10 (by rw [List.getElem?_cons_succ, List.getElem?_append_right (by omega), h9]; rfl)
theorem lkstate_c (h : Lk Z w b F vs vars nc sl xs) (hm : xs.length <= 1000) (s : ByteArray) : Calls Try.prog 66 #[.pointer (some ⟨b, 0, none⟩), .string s] w fun e w' => (∃ r : Bool, e = .returned (.bool r)) /\ w' = w := by
 refine (v82w ⟨b, 0, none⟩ s (fun v w' => (∃ r : Bool, v = .bool r) /\ w' = w) w ?_).mono (by rintro _ w' ⟨v, rfl, ⟨i, rfl⟩, h'⟩; exact ⟨⟨i, rfl⟩, h'⟩)
 unfold v82v
 refine ⟨sl, h.row, (rfind_c h.sp hm s).mono ?_⟩
 rintro _ u ⟨⟨i, rfl, hi⟩, hu⟩
 obtain rfl : w = u := hu.symm
 refine ⟨i, rfl, fun _ u => w = u, fun r u hu => ⟨⟨r, rfl⟩, hu.symm⟩, fun hc => ?_, fun _ => rfl⟩
 have hc := of_decide_eq_true hc
 rcases hi with rfl | ⟨j, rfl, hj⟩
 · exact absurd hc (by decide)
 obtain ⟨y, hy⟩ := get_at hj
 obtain ⟨ad, a1, a2, _⟩ := sp_at h.sp hy
 refine ⟨sl, h.row, ad, a1, _, a2.part 0 fun i v hi => one_part hi rfl, (rhistory_c w y.k).mono ?_⟩
 rintro _ u ⟨rfl, hu⟩
 exact ⟨_, rfl, hu.symm⟩
theorem lkexpr_c {G : Nat -> Prop} (hG : ∀ k, G k -> k ≠ b) (hv : vars.length <= 8388608) (hm : xs.length <= 1000) : ∀ (d : Nat) {w : World} {x : Ex} {cs : List Value}, Lk Z w b F vs vars nc sl xs -> rXg false d w G x cs -> szX x <= 8388608 ->
  Calls Try.prog 56 #[.pointer (some ⟨b, 0, none⟩), .agg cs.toArray] w fun e w' => e = .returned (.tuple #[]) /\ Lk Z w' b F vs vars nc sl xs /\ Only [b] w w'
 | 0, _, _, _, _, h, _ => h.elim
 | d + 1, w, x, cs, h, ⟨s, hcs, hs0⟩, hz => by
  subst hcs
  have hs := hs0.1
  have hsl := hs.len
  have hb := h.lb
  rw [szX_eq] at hz
  have hzl : x.subs.length <= szL x.subs := by
   have : ∀ l : List Ex, l.length <= szL l := fun l => by induction l with
    | nil => exact Nat.zero_le _
    | cons a l ih =>
     rw [szL, List.length_cons]
     have := szX_eq a
     omega
   exact this _
  refine ret (v80w ⟨b, 0, none⟩ x.k x.n (T x.s) x.op s x.a (fun v w' => v = .tuple #[] /\ Lk Z w' b F vs vars nc sl xs /\ Only [b] w w') w ?_)
  unfold v80v
  intro k0 w0 hk0 hk0' hO0
  have z0 := hO0.size
  have h0 := h.only hO0
  have sm : ∀ {u u' : World}, Only [b] w u -> w0.heap.size <= u.heap.size -> Only [b] u u' -> Same [k0] u u' := fun _ hz hO => hO.same (by simp; omega)
  let St : World -> Prop := fun u => Lk Z u b F vs vars nc sl xs /\ Only [b] w u /\ w0.heap.size <= u.heap.size
  have s0 : St w0 := ⟨h0, only1 hO0, Nat.le_refl _⟩
  refine ⟨fun _ u => St u, fun b0 w1 s1 => ⟨fun _ u => St u, fun b1 w2 s2 => ⟨St, fun w3 s3 => ?_, fun _ => ?_, fun _ => s2⟩, fun _ => s1, fun _ => ?_⟩, fun _ => s0, fun _ => ?_⟩
  · refine ⟨fun kv i u => ∃ j : Nat, i = (j : Int) /\ kv + j = x.subs.length /\ j <= x.subs.length /\ St u, x.subs.length, ⟨0, rfl, by omega, Nat.zero_le _, s3⟩, ?_⟩
    rintro kv _ w4 ⟨j, rfl, hkv, hj, h4, o4, z4⟩
    refine ⟨fun hc => ?_, fun _ => ⟨rfl, h4, o4⟩⟩
    have hc := of_decide_eq_true hc
    obtain ⟨ad, y, ds, g1, g2, g3, g4, g5, g6⟩ := (SliceF.only (rXg_ok false d) (by decide) hs o4 fun k hk _ hm => hG k hk (by simpa using hm)).get (Int.natCast_nonneg j) (by omega)
    rw [Int.toNat_natCast] at g2
    have hyz := szL_mem (List.mem_of_getElem? g2)
    have g6' := g6
    obtain ⟨s', rfl⟩ := rE_cells ⟨d, g6⟩
    refine ⟨ad, g1, _, _, _, _, _, _, g5, (lkexpr_c hG hv hm d h4 g6' (by omega)).mono ?_⟩
    rintro _ w5 ⟨rfl, h5, hO5⟩
    have z5 := hO5.size
    exact ⟨rfl, sm o4 z4 hO5, kv - 1, by omega, j + 1, by rw [wr' (by omega) (by omega)]; rfl, by omega, by omega, h5, only11 o4 hO5, by omega⟩
  · obtain ⟨h2, o2, z2⟩ := s2
    refine (lkwrong_c h2 23 x.a (by decide)).mono ?_
    rintro _ w6 ⟨rfl, h6, hO6⟩
    have z6 := hO6.size
    exact ⟨rfl, sm o2 z2 hO6, h6.imp False.elim, only11 o2 hO6, by omega⟩
  · obtain ⟨h1, o1, z1⟩ := s1
    refine (lkstate_c h1 hm _).mono ?_
    rintro _ u ⟨⟨r, rfl⟩, hu⟩
    obtain rfl : w1 = u := hu.symm
    exact ⟨r, rfl, Same.refl _ _, h1, o1, z1⟩
  · refine (lkvar_c h0 hv _).mono ?_
    rintro _ u ⟨⟨r, rfl⟩, hu⟩
    obtain rfl : w0 = u := hu.symm
    exact ⟨r, rfl, Same.refl _ _, s0⟩
end
section
variable {Z : Prop} {w w' : World} {b : Nat} {F : Nat -> Prop} {vs sl : Sl} {vars : List Vr} {nc : List Value} {xs : List Spo}
theorem lkacts_c {G : Nat -> Prop} (hG : ∀ k, G k -> k ≠ b) (hv : vars.length <= 8388608) (hm : xs.length <= 1000) {l : Sl} {acs : List Ac} (h : Lk Z w b F vs vars nc sl xs) (hl : SlG false (rAc false) 9 113 w G l acs) (hz : szAs acs <= 8388608) :
  Calls Try.prog 55 #[.pointer (some ⟨b, 0, none⟩), l.v] w fun e w' => e = .returned (.tuple #[]) /\ Lk Z w' b F vs vars nc sl xs /\ Only [b] w w' := by
 refine ret (v78w ⟨b, 0, none⟩ l (fun v w' => v = .tuple #[] /\ Lk Z w' b F vs vars nc sl xs /\ Only [b] w w') w ?_)
 unfold v78v
 have hln := hl.1.len
 have hll := szAs_len acs
 have kp : ∀ {u : World}, Only [b] w u -> SliceF (rAc false) 9 u G l acs := fun hO => SliceF.only (rAc_ok false) (by decide) hl.1 hO fun k hk _ hm => hG k hk (by simpa using hm)
 let St : World -> Prop := fun u => Lk Z u b F vs vars nc sl xs /\ Only [b] w u
 refine ⟨fun kv i u => ∃ j : Nat, i = (j : Int) /\ kv + j = acs.length /\ j <= acs.length /\ St u, acs.length, ⟨0, rfl, by omega, Nat.zero_le _, h, Only.refl _ _⟩, ?_⟩
 rintro kv _ u ⟨j, rfl, hkv, hj, hst⟩
 refine ⟨fun hcj => ?_, fun _ => ⟨rfl, hst.1, hst.2⟩⟩
 have hcj := of_decide_eq_true hcj
 obtain ⟨y, hy⟩ : ∃ y, acs[j]? = some y := ⟨_, List.getElem?_eq_getElem (show j < acs.length by omega)⟩
 have hys := szAs_mem (List.mem_of_getElem? hy)
 unfold szA at hys
 have at_ : ∀ {v : World}, Only [b] w v -> ∃ ad s, SlAt l (j : Int) 9 ad /\ Cells v (ad.add 0) [.int .i64 y.k] /\ Cells v (ad.add 1) [.string (T y.n)] /\ Cells v (ad.add 2) (exv y.x.k y.x.n y.x.s y.x.op s y.x.a) /\ Cells v (ad.add 8) [.int .i64 y.a] /\ rE false v G y.x (exv y.x.k y.x.n y.x.s y.x.op s y.x.a) := fun {v} hv => by
  obtain ⟨ad, y', cs, q1, q2, q3, q4, q5, q6⟩ := (kp hv).get (Int.natCast_nonneg j) (by omega)
  rw [Int.toNat_natCast, hy] at q2
  injection q2 with q2
  subst q2
  obtain ⟨xc, rfl, hxe⟩ := q6
  obtain ⟨s, rfl⟩ := rE_cells hxe
  exact ⟨ad, s, q1, q5.part 0 fun i v hi => one_part hi rfl, q5.part 1 fun i v hi => one_part hi rfl, q5.part 2 fun i v hi => acv_part hi, q5.part 8 fun i v hi => one_part hi rfl, hxe⟩
 obtain ⟨ad, s, g1, g2, g3, g4, g5, g6⟩ := at_ hst.2
 refine ⟨fun _ v => St v, fun b0 w1 s1 => ⟨St, fun w2 s2 => ?_, fun _ => ?_, fun _ => s1⟩, ad, g1, _, g2, fun _ => hst, fun _ => ⟨ad, g1, _, g3, (lkvar_c hst.1 hv _).mono ?_⟩⟩
 · obtain ⟨ad2, s2', p1, p2, p3, p4, p5, d, p6⟩ := at_ s2.2
   refine ⟨ad2, p1, _, _, _, _, _, _, p4, (lkexpr_c hG hv hm d s2.1 p6 (by omega)).mono ?_⟩
   rintro _ w3 ⟨rfl, h3, hO3⟩
   exact ⟨rfl, kv - 1, by omega, j + 1, by rw [wr' (by omega) (by omega)]; rfl, by omega, by omega, h3, only11 s2.2 hO3⟩
 · obtain ⟨ad2, s2', p1, p2, p3, p4, p5, p6⟩ := at_ s1.2
   refine ⟨ad2, p1, _, p5, (lkwrong_c s1.1 23 _ (by decide)).mono ?_⟩
   rintro _ w4 ⟨rfl, h4, hO4⟩
   exact ⟨rfl, h4.imp False.elim, only11 s1.2 hO4⟩
 · rintro _ v ⟨⟨r, rfl⟩, hu⟩
   obtain rfl : u = v := hu.symm
   exact ⟨r, rfl, hst⟩
end
section
variable {w : World} {F G : Nat -> Prop} {sl sN : Sl} {xs : List Spo} {ns : List Int}
def wB (xs : List Spo) (a b : Int) : Bool := decide (b >= 0) && decide (b < (xs.length : Int)) && decide (a > b) && decide (a < ((xs[b.toNat]?).map (fun s : Spo => s.en)).getD 0)
theorem rwithin9_c (h : SliceF rSp 5 w F sl xs) (a b : Int) : Calls Try.prog 54 #[sl.v, .int .i64 a, .int .i64 b] w fun e w' => e = .returned (.bool (wB xs a b)) /\ w' = w := by
 refine ret (v73w sl a b (fun v w' => v = .bool (wB xs a b) /\ w' = w) w ?_)
 unfold v73v wB
 rw [h.len]
 by_cases hc : ((decide (b >= 0) && decide (b < (xs.length : Int))) && decide (a > b)) = true
 · have hc' := hc
   simp only [Bool.and_eq_true] at hc'
   have h1 := of_decide_eq_true hc'.1.1
   have h2 := of_decide_eq_true hc'.1.2
   obtain ⟨i, rfl⟩ : ∃ i : Nat, b = i := ⟨b.toNat, by omega⟩
   obtain ⟨y, hy⟩ := get_at (xs := xs) (i := i) (by omega)
   obtain ⟨ad, a1, _, _, _, a5⟩ := sp_at h hy
   refine ⟨ad, fun _ => a1, y.en, fun _ => a5, ?_, rfl⟩
   rw [Int.toNat_natCast, hy]
   rfl
 · refine ⟨⟨0, 0, none⟩, fun h => absurd h hc, 0, fun h => absurd h hc, ?_, rfl⟩
   rw [Bool.not_eq_true] at hc
   rw [hc, Bool.false_and, Bool.false_and]
theorem rmeet9_c (h : SliceF rSp 5 w F sl xs) (hF : Fo xs) (hm : xs.length <= 1000) (hN : SliceF rInt 1 w G sN ns) (hne : ns ≠ []) (hns : ∀ n, n ∈ ns -> Has xs n) :
  Calls Try.prog 67 #[sl.v, sN.v] w fun e w' => (∃ j : Nat, e = .returned (.int .i64 (j : Int)) /\ j < xs.length) /\ Only [] w w' := by
 refine (v72w sl sN (fun v w' => (∃ j : Nat, v = .int .i64 (j : Int) /\ j < xs.length) /\ Only [] w w') w ?_).mono (by rintro _ w' ⟨v, rfl, ⟨j, rfl, h⟩, h'⟩; exact ⟨⟨j, rfl, h⟩, h'⟩)
 unfold v72v
 have hl := h.len
 have hnl := hN.len
 have hnb := hN.big
 have hnc := hN.cap
 have hlp := hF.ne
 have hn0 : 0 < ns.length := List.length_pos_iff.2 hne
 have kL : ∀ {u : World}, Only [] w u -> SliceF rSp 5 u F sl xs := fun hO => SliceF.only rSp_ok (by decide) h hO (by simp)
 have kN : ∀ {u : World}, Only [] w u -> SliceF rInt 1 u G sN ns := fun hO => SliceF.only rInt_ok (by decide) hN hO (by simp)
 refine ⟨fun kv best i u => ∃ m : Nat, i = (m : Int) /\ kv + m = xs.length /\ m <= xs.length /\ Only [] w u /\ ((best = -1 /\ m = 0) ∨ ∃ j : Nat, best = (j : Int) /\ j < xs.length), xs.length, ⟨0, rfl, by omega, Nat.zero_le _, Only.refl _ _, .inl ⟨rfl, rfl⟩⟩, ?_⟩
 rintro kv best _ w0 ⟨m, rfl, hkv, hml, hO, hb⟩
 refine ⟨fun hc => ?_, fun hc => ?_⟩
 · rw [Bool.and_eq_true] at hc
   have hc1 := of_decide_eq_true hc.1
   refine ⟨fun b' u => (∃ j : Nat, b' = (j : Int) /\ j < xs.length) /\ Only [] w u, fun b' u ⟨h1, h2⟩ => ⟨kv - 1, by omega, m + 1, by rw [wr' (by omega) (by omega)]; rfl, by omega, by omega, h2, .inr h1⟩, fun kv2 al i u => ∃ t : Nat, i = (t : Int) /\ kv2 + t = ns.length /\ t <= ns.length /\ (m = 0 -> al = true) /\ w0 = u, ns.length, ⟨0, rfl, by omega, Nat.zero_le _, fun _ => rfl, rfl⟩, ?_⟩
   rintro kv2 al _ _ ⟨t, rfl, hkv2, htl, hal, rfl⟩
   refine ⟨fun hc2 => ?_, fun hc2 => ?_⟩
   · have hc2 := of_decide_eq_true hc2
     obtain ⟨ad, y, cs, g1, g2, g3, g4, g5, g6⟩ := (kN hO).get (Int.natCast_nonneg t) (by omega)
     obtain ⟨rfl, _⟩ := g6
     rw [Int.toNat_natCast] at g2
     have hy := hns y (List.mem_of_getElem? g2)
     refine ⟨ad, g1, y, g5, (rwithin9_c (kL hO) y m).mono ?_⟩
     rintro _ u ⟨rfl, hu⟩
     obtain rfl : w0 = u := hu.symm
     refine ⟨_, rfl, ad, fun _ _ => g1, y, fun _ _ => g5, kv2 - 1, by omega, t + 1, by rw [wr' (by omega) (by omega)]; rfl, by omega, by omega, fun hm0 => ?_, rfl⟩
     subst hm0
     rw [hal rfl, Bool.true_and, Bool.or_eq_true]
     obtain ⟨x0, hx0⟩ := get_at hF.ne
     by_cases hy0 : y = 0
     · exact .inr (by rw [hy0]; rfl)
     · left
       unfold wB
       rw [show ((0 : Nat) : Int).toNat = 0 from rfl, hx0, Option.map_some, Option.getD_some, (hF.rt x0 hx0).2.2]
       obtain ⟨y1, y2⟩ := hy
       simp only [Bool.and_eq_true, decide_eq_true_eq]
       omega
   · obtain ⟨x, hx⟩ := get_at (xs := xs) (i := m) (by omega)
     obtain ⟨ad, a1, _, _, a4, _⟩ := sp_at (kL hO) hx
     rcases hb with ⟨rfl, hm0⟩ | ⟨j, rfl, hj⟩
     · refine ⟨ad, fun _ h => absurd h (by decide), 0, fun _ h => absurd h (by decide), ad, fun _ h => absurd h (by decide), 0, fun _ h => absurd h (by decide), fun _ w4 h4 => ⟨⟨m, rfl, by omega⟩, hO.tr0 h4⟩, fun hf => absurd hf (by rw [hal hm0]; decide)⟩
     · obtain ⟨z, hz⟩ := get_at hj
       obtain ⟨ad2, b1, _, _, b4, _⟩ := sp_at (kL hO) hz
       exact ⟨ad, fun _ _ => a1, _, fun _ _ => a4, ad2, fun _ _ => b1, _, fun _ _ => b4, fun _ w4 h4 => ⟨⟨m, rfl, by omega⟩, hO.tr0 h4⟩, fun _ w5 h5 => ⟨⟨j, rfl, hj⟩, hO.tr0 h5⟩⟩
 · rcases hb with ⟨rfl, hm0⟩ | ⟨j, rfl, hj⟩
   · subst hm0
     exact absurd hc (by rw [decide_eq_true (show ((0 : Nat) : Int) < sl.n by omega), decide_eq_true (show (sN.n : Int) > 0 by omega)]; decide)
   · exact ⟨⟨j, rfl, hj⟩, hO⟩
end
theorem lit2 (u : World) {a b : Int} (ha : InI a) (hb : InI b) : ∃ y w1, (Instr.buildSlice 30 2 #[.mk 0 (.int .i64 a), .mk 1 (.int .i64 b)]).run Try.prog u = .ok (Sl.v y) w1 /\ Only [] u w1 /\ SliceF rInt 1 w1 (fun _ => True) y [a, b] := by
 obtain ⟨y, w1, k1, k2, k3, _⟩ := build_own (P := Try.prog) (t := 30) (e := 3) (i := Try.t3) (z := .int .i64 0) (w := u) (F := fun _ => False) (vs := [.int .i64 a, .int .i64 b]) (parts := #[.mk 0 (.int .i64 a), .mk 1 (.int .i64 b)]) (len := 2) (xs := [a, b]) (r := rInt) (size := 1) (by kernel_rfl) (by kernel_rfl) rfl rfl (by decide) rfl rfl (by decide) (by decide) rInt_ok ⟨⟨rfl, rfl, ha⟩, ⟨rfl, rfl, hb⟩, trivial⟩
 exact ⟨y, w1, k1, k3, (k2.slice rInt_ok).mono rInt_ok fun _ _ => trivial⟩
theorem OwnI.sl {B : Nat} {w : World} {s : Sl} {xs : List Int} (h : OwnI B w s xs) : SliceF rInt 1 w (fun k => B <= k) s xs := (h.slice rInt_ok).mono rInt_ok fun k hk => hk.elim (fun h => h.elim) fun h => h.1
theorem int_at {w : World} {F : Nat -> Prop} {s : Sl} {l : List Int} (h : SliceF rInt 1 w F s l) {i : Nat} {x : Int} (hx : l[i]? = some x) : ∃ ad, SlAt s (i : Int) 1 ad /\ Cells w ad [.int .i64 x] := by
 have hlt := (List.getElem?_eq_some_iff.1 hx).1
 have hl := h.len
 obtain ⟨ad, y, cs, g1, g2, g3, g4, g5, g6⟩ := h.get (Int.natCast_nonneg i) (by omega)
 rw [Int.toNat_natCast, hx] at g2
 injection g2 with g2
 subst g2
 obtain ⟨rfl, _⟩ := g6
 exact ⟨ad, g1, g5⟩
theorem kI {w w' : World} {F : Nat -> Prop} {s : Sl} {l : List Int} (h : SliceF rInt 1 w F s l) (hO : Only [] w w') : SliceF rInt 1 w' F s l := SliceF.only rInt_ok (by decide) h hO (by simp)
end Go.Proofs.Ytddfmhccaapgjaa.Con
namespace Go.Proofs.Ytddfmhccaapgjaa.Con
open Go Go.RowKit Go.Kt Go.Kt.V
set_option linter.unusedSimpArgs false
set_option linter.unusedVariables false
set_option maxRecDepth 100000
def kd (xs : List Spo) (i : Int) : Int := ((xs[i.toNat]?).map fun s : Spo => s.k).getD 0
theorem kd_at {xs : List Spo} {i : Nat} {s : Spo} (h : xs[i]? = some s) : kd xs (i : Int) = s.k := by
 unfold kd
 rw [Int.toNat_natCast, h]
 rfl
def stK (k : Int) : Bool := (k == 1) || (k == 2)
def regs (xs : List Spo) (n : Nat) : List Int := (kidsOf xs n xs.length).filter fun k => stK (kd xs k)
structure Sd (xs : List Spo) : Prop where
 fo : Fo xs
 le : xs.length <= 64
 kn : ∀ (i : Nat) (s : Spo), xs[i]? = some s -> 1 <= s.k /\ s.k <= 4
 rt : ∃ s, xs[0]? = some s /\ s.k = 1
 pr : ∀ (i : Nat) (s : Spo), xs[i]? = some s -> s.k = 2 -> regs xs i ≠ []
theorem mem_kids {xs : List Spo} {i n : Nat} {k : Int} : k ∈ kidsOf xs i n ↔ ∃ (q : Nat) (t : Spo), k = q /\ q < n /\ xs[q]? = some t /\ t.pa = i := by
 unfold kidsOf
 rw [List.mem_map]
 constructor
 · rintro ⟨q, hq, rfl⟩
   rw [List.mem_filter, List.mem_range] at hq
   have := of_decide_eq_true hq.2
   cases hx : xs[q]? with
   | none => rw [hx] at this; cases this
   | some t =>
    rw [hx] at this
    injection this with this
    exact ⟨q, t, rfl, hq.1, hx, this⟩
 · rintro ⟨q, t, rfl, h1, h2, h3⟩
   exact ⟨q, by rw [List.mem_filter, List.mem_range]; exact ⟨h1, decide_eq_true (by rw [h2]; exact congrArg some h3)⟩, rfl⟩
theorem mem_regs {xs : List Spo} {i : Nat} {k : Int} : k ∈ regs xs i ↔ ∃ (q : Nat) (t : Spo), k = q /\ xs[q]? = some t /\ t.pa = i /\ stK t.k = true := by
 unfold regs
 rw [List.mem_filter, mem_kids]
 constructor
 · rintro ⟨⟨q, t, rfl, _, h2, h3⟩, h4⟩
   rw [kd_at h2] at h4
   exact ⟨q, t, rfl, h2, h3, h4⟩
 · rintro ⟨q, t, rfl, h2, h3, h4⟩
   exact ⟨⟨q, t, rfl, get_lt h2, h2, h3⟩, by rw [kd_at h2]; exact h4⟩
theorem regs_rise (xs : List Spo) (i : Nat) : (regs xs i).Pairwise (· < ·) := (kidsOf_rise xs i xs.length).1.filter _
theorem regs_len (xs : List Spo) (i : Nat) : (regs xs i).length <= xs.length := by
 unfold regs
 refine Nat.le_trans (List.length_filter_le _ _) ?_
 unfold kidsOf
 rw [List.length_map]
 exact Nat.le_trans (List.length_filter_le _ _) (by rw [List.length_range]; exact Nat.le_refl _)
theorem rise_ext : ∀ {l m : List Int}, l.Pairwise (· < ·) -> m.Pairwise (· < ·) -> (∀ x, x ∈ l ↔ x ∈ m) -> l = m
 | [], [], _, _, _ => rfl
 | [], y :: m, _, _, h => absurd ((h y).2 (.head _)) (by simp)
 | x :: l, [], _, _, h => absurd ((h x).1 (.head _)) (by simp)
 | x :: l, y :: m, hl, hm, h => by
  rw [List.pairwise_cons] at hl hm
  have hxy : x = y := by
   have h1 := (h x).1 (.head _)
   have h2 := (h y).2 (.head _)
   rw [List.mem_cons] at h1 h2
   rcases h1 with h1 | h1
   · exact h1
   rcases h2 with h2 | h2
   · exact h2.symm
   have := hl.1 y h2
   have := hm.1 x h1
   omega
  subst hxy
  rw [rise_ext hl.2 hm.2 fun z => ?_]
  have hz := h z
  rw [List.mem_cons, List.mem_cons] at hz
  constructor
  · intro hz'
    rcases hz.1 (.inr hz') with e | e
    · subst e
      exact absurd (hl.1 z hz') (by omega)
    · exact e
  · intro hz'
    rcases hz.2 (.inr hz') with e | e
    · subst e
      exact absurd (hm.1 z hz') (by omega)
    · exact e
def pls (n : Nat) (p : Nat -> Bool) : List Int := ((List.range n).filter p).map fun k : Nat => (k : Int)
def lvP (xs : List Spo) (act : List Int) (n : Nat) : Bool := decide ((n : Int) ∈ act) && (kd xs n == 1) && ((regs xs n).length == 0)
def lvs (xs : List Spo) (act : List Int) : List Int := pls xs.length (lvP xs act)
def onC (xs : List Spo) (act : List Int) (n : Nat) : Nat := (regs xs n).countP fun r => decide (r ∈ act)
def onOk (xs : List Spo) (act : List Int) (n : Nat) : Bool := if kd xs n = 2 then onC xs act n == (regs xs n).length else onC xs act n == min 1 (regs xs n).length
structure LgAt (xs : List Spo) (act : List Int) (x : Int) : Prop where
 ge : 0 <= x
 lt : x < xs.length
 st : stK (kd xs x) = true
 up : x = 0 ∨ ∀ s, xs[x.toNat]? = some s -> s.pa ∈ act
 on : onOk xs act x.toNat = true
structure Lg (xs : List Spo) (act : List Int) : Prop where
 rt : (0 : Int) ∈ act
 rise : act.Pairwise (· < ·)
 at_ : ∀ x, x ∈ act -> LgAt xs act x
theorem rise_sub_len : ∀ {m l : List Int}, m.Pairwise (· < ·) -> l.Pairwise (· < ·) -> (∀ x, x ∈ l -> x ∈ m) -> l.length <= m.length
 | [], [], _, _, _ => Nat.le_refl _
 | [], x :: l, _, _, h => absurd (h x (.head _)) (by simp)
 | y :: m, [], _, _, _ => Nat.zero_le _
 | y :: m, x :: l, hm, hl, h => by
  rw [List.pairwise_cons] at hm hl
  have hx := h x (.head _)
  rw [List.mem_cons] at hx
  have hl' : ∀ z, z ∈ l -> z ∈ m := fun z hz => by
   have h1 := hl.1 z hz
   have h2 := h z (.tail _ hz)
   rw [List.mem_cons] at h2
   rcases h2 with h2 | h2
   · rcases hx with hx | hx
     · omega
     · have := hm.1 x hx
       omega
   · exact h2
  have := rise_sub_len hm.2 hl.2 hl'
  simp only [List.length_cons]
  omega
theorem rise_sub_eq : ∀ {m l : List Int}, m.Pairwise (· < ·) -> l.Pairwise (· < ·) -> (∀ x, x ∈ l -> x ∈ m) -> m.length <= l.length -> l = m
 | [], [], _, _, _, _ => rfl
 | [], x :: l, _, _, h, _ => absurd (h x (.head _)) (by simp)
 | y :: m, [], _, _, _, hn => by simp at hn
 | y :: m, x :: l, hm, hl, h, hn => by
  have hm' := hm
  have hl0 := hl
  rw [List.pairwise_cons] at hm hl
  have hx := h x (.head _)
  rw [List.mem_cons] at hx
  rcases hx with rfl | hx
  · have hl' : ∀ z, z ∈ l -> z ∈ m := fun z hz => by
     have h1 := hl.1 z hz
     have h2 := h z (.tail _ hz)
     rw [List.mem_cons] at h2
     rcases h2 with h2 | h2
     · omega
     · exact h2
    rw [rise_sub_eq hm.2 hl.2 hl' (by simpa using hn)]
  · have h1 := hm.1 x hx
    have hall : ∀ z, z ∈ x :: l -> z ∈ m := fun z hz => by
     have h2 := h z hz
     rw [List.mem_cons] at h2 hz
     rcases h2 with rfl | h2
     · rcases hz with hz | hz
       · omega
       · have := hl.1 z hz
         omega
     · exact h2
    have := rise_sub_len hm.2 hl0 hall
    simp only [List.length_cons] at this hn
    omega
section
variable {xs : List Spo}
theorem Sd.reg (hF : Sd xs) {n : Nat} {r : Int} (h : r ∈ regs xs n) : ∃ (q : Nat) (t : Spo), r = q /\ xs[q]? = some t /\ t.pa = n /\ stK t.k = true /\ n < q /\ ∀ s, xs[n]? = some s -> (q : Int) < s.en := by
 obtain ⟨q, t, h1, h2, h3, h4⟩ := mem_regs.1 h
 have h5 := hF.fo.pa_lt h2
 refine ⟨q, t, h1, h2, h3, h4, by omega, fun s hs => ?_⟩
 obtain ⟨p, s', g1, g2, g3, g4, g5, _⟩ := hF.fo.par h2 (by omega)
 have : p = n := by omega
 subst this
 rw [hs] at g3
 injection g3 with g3
 rw [g3]
 exact g5
theorem Sd.apart (hF : Sd xs) {n q r : Nat} {s t : Spo} (hq : xs[q]? = some s) (hr : xs[r]? = some t) (h1 : s.pa = n) (h2 : t.pa = n) (hqr : q < r) : s.en <= r := by
 have h5 := hF.fo.pa_lt hq
 obtain ⟨p, s', g1, g2, g3, g4, g5, g6⟩ := hF.fo.par hr (by omega)
 refine Classical.byContradiction fun hh => ?_
 have := g6 q s hq hqr (by omega)
 omega
def onR (xs : List Spo) (act : List Int) (n : Nat) : List Int := (regs xs n).filter fun r => decide (r ∈ act)
def vis (xs : List Spo) (act : List Int) : Nat -> Nat -> List Int
 | 0, n => [(n : Int)]
 | f + 1, n => (n : Int) :: (onR xs act n).flatMap fun r => vis xs act f r.toNat
theorem flat_rise {α : Type} {f : α -> List Int} {lo : α -> Int} {hi : α -> Int} : ∀ {rs : List α}, rs.Pairwise (fun a b => hi a <= lo b) -> (∀ r, r ∈ rs -> (f r).Pairwise (· < ·) /\ ∀ x, x ∈ f r -> lo r <= x /\ x < hi r) -> (rs.flatMap f).Pairwise (· < ·)
 | [], _, _ => by simp
 | r :: rs, hp, hr => by
  rw [List.pairwise_cons] at hp
  rw [List.flatMap_cons, List.pairwise_append]
  refine ⟨(hr r (.head _)).1, flat_rise hp.2 fun q hq => hr q (.tail _ hq), fun x hx y hy => ?_⟩
  obtain ⟨q, hq, hy⟩ := List.mem_flatMap.1 hy
  have h1 := (hr r (.head _)).2 x hx
  have h2 := (hr q (.tail _ hq)).2 y hy
  have h3 := hp.1 q hq
  omega
def enO (xs : List Spo) (r : Int) : Int := ((xs[r.toNat]?).map fun s : Spo => s.en).getD 0
theorem enO_at {i : Nat} {s : Spo} (h : xs[i]? = some s) : enO xs i = s.en := by
 unfold enO
 rw [Int.toNat_natCast, h]
 rfl
theorem Sd.regs_apart (hF : Sd xs) (n : Nat) {l : List Int} (hl : l.Pairwise (· < ·)) (hm : ∀ r, r ∈ l -> r ∈ regs xs n) : l.Pairwise fun a b => enO xs a <= b := by
 refine List.Pairwise.imp_of_mem (fun {a b} ha hb hlt => ?_) hl
 obtain ⟨q, s, rfl, h2, h3, _⟩ := hF.reg (hm a ha)
 obtain ⟨r, t, rfl, g2, g3, _⟩ := hF.reg (hm b hb)
 rw [enO_at h2]
 exact hF.apart h2 g2 h3 g3 (by omega)
theorem onR_rise (xs : List Spo) (act : List Int) (n : Nat) : (onR xs act n).Pairwise (· < ·) := (regs_rise xs n).filter _
theorem onR_mem {act : List Int} {n : Nat} {r : Int} : r ∈ onR xs act n ↔ r ∈ regs xs n /\ r ∈ act := by
 unfold onR
 rw [List.mem_filter, decide_eq_true_eq]
theorem Sd.vis_in (hF : Sd xs) (act : List Int) : ∀ (f n : Nat) {s : Spo}, xs[n]? = some s -> (vis xs act f n).Pairwise (· < ·) /\ ∀ x, x ∈ vis xs act f n -> (n : Int) <= x /\ x < s.en
 | 0, n, s, hs => by
  have := hF.fo.up n s hs
  rw [vis]
  exact ⟨by simp, fun x hx => by rw [List.mem_singleton] at hx; omega⟩
 | f + 1, n, s, hs => by
  have hu := hF.fo.up n s hs
  rw [vis]
  have key : ∀ r, r ∈ onR xs act n -> (vis xs act f r.toNat).Pairwise (· < ·) /\ ∀ x, x ∈ vis xs act f r.toNat -> r <= x /\ x < enO xs r := fun r hr => by
   obtain ⟨q, t, rfl, h2, _⟩ := hF.reg (onR_mem.1 hr).1
   rw [Int.toNat_natCast, enO_at h2]
   exact hF.vis_in act f q h2
  have hfl := flat_rise (f := fun r => vis xs act f r.toNat) (lo := fun r => r) (hi := enO xs) (hF.regs_apart n (onR_rise xs act n) fun r hr => (onR_mem.1 hr).1) key
  have hin : ∀ x, x ∈ (onR xs act n).flatMap (fun r => vis xs act f r.toNat) -> (n : Int) < x /\ x < s.en := fun x hx => by
   obtain ⟨r, hr, hx⟩ := List.mem_flatMap.1 hx
   have h1 := (key r hr).2 x hx
   obtain ⟨q, t, rfl, h2, _, _, h5, h6⟩ := hF.reg (onR_mem.1 hr).1
   rw [enO_at h2] at h1
   have := h6 s hs
   have := hF.fo.lam q hs h2 h5 this
   omega
  refine ⟨List.pairwise_cons.2 ⟨fun x hx => (hin x hx).1, hfl⟩, fun x hx => ?_⟩
  rw [List.mem_cons] at hx
  rcases hx with rfl | hx
  · omega
  · have := hin x hx
    omega
theorem rise_len : ∀ {l : List Int} {lo hi : Int}, l.Pairwise (· < ·) -> (∀ x, x ∈ l -> lo <= x /\ x < hi) -> lo <= hi -> (l.length : Int) <= hi - lo
 | [], lo, hi, _, _, h => by simp; omega
 | a :: l, lo, hi, hp, hm, h => by
  rw [List.pairwise_cons] at hp
  have ha := hm a (.head _)
  have := rise_len (lo := a + 1) (hi := hi) hp.2 (fun x hx => ⟨by have := hp.1 x hx; omega, (hm x (.tail _ hx)).2⟩) (by omega)
  rw [List.length_cons]
  omega
theorem Sd.vis_len (hF : Sd xs) (act : List Int) (f : Nat) {n : Nat} {s : Spo} (hs : xs[n]? = some s) : (vis xs act f n).length <= 64 := by
 obtain ⟨h1, h2⟩ := hF.vis_in act f n hs
 have hu := hF.fo.up n s hs
 have hle := hF.le
 have := rise_len h1 h2 (by omega)
 omega
theorem Sd.vis_act (hF : Sd xs) (act : List Int) : ∀ (f n : Nat) {s : Spo}, xs[n]? = some s -> (n : Int) ∈ act -> stK s.k = true -> ∀ x, x ∈ vis xs act f n -> x ∈ act /\ stK (kd xs x) = true /\ (x = n ∨ ∀ t, xs[x.toNat]? = some t -> t.pa ∈ act)
 | 0, n, s, hs, ha, hk, x, hx => by
  rw [vis, List.mem_singleton] at hx
  subst hx
  exact ⟨ha, by rw [kd_at hs]; exact hk, .inl rfl⟩
 | f + 1, n, s, hs, ha, hk, x, hx => by
  rw [vis, List.mem_cons] at hx
  rcases hx with rfl | hx
  · exact ⟨ha, by rw [kd_at hs]; exact hk, .inl rfl⟩
  obtain ⟨r, hr, hx⟩ := List.mem_flatMap.1 hx
  obtain ⟨hr1, hr2⟩ := onR_mem.1 hr
  obtain ⟨q, t, rfl, h2, h3, h4, h5, _⟩ := hF.reg hr1
  rw [Int.toNat_natCast] at hx
  obtain ⟨g1, g2, g3⟩ := hF.vis_act act f q h2 hr2 h4 x hx
  refine ⟨g1, g2, .inr ?_⟩
  rcases g3 with rfl | g3
  · intro t' ht'
    rw [Int.toNat_natCast, h2] at ht'
    injection ht' with ht'
    rw [<- ht', h3]
    exact ha
  · exact g3
theorem Sd.vis_down (hF : Sd xs) (act : List Int) : ∀ (f n : Nat), xs.length <= n + f -> ∀ (m q : Nat) {t : Spo}, (m : Int) ∈ vis xs act f n -> xs[q]? = some t -> t.pa = m -> stK t.k = true -> (q : Int) ∈ act -> (q : Int) ∈ vis xs act f n
 | 0, n, hf, m, q, t, hm, hq, hp, hk, ha => by
  rw [vis, List.mem_singleton] at hm
  have := get_lt hq
  have := hF.fo.pa_lt hq
  omega
 | f + 1, n, hf, m, q, t, hm, hq, hp, hk, ha => by
  rw [vis, List.mem_cons] at hm ⊢
  right
  rw [List.mem_flatMap] at hm ⊢
  rcases hm with hm | ⟨r, hr, hm⟩
  · have : m = n := by omega
    subst this
    refine ⟨q, onR_mem.2 ⟨mem_regs.2 ⟨q, t, rfl, hq, hp, hk⟩, ha⟩, ?_⟩
    rw [Int.toNat_natCast]
    cases f <;> simp [vis]
  · obtain ⟨q', t', rfl, h2, _, _, h5, _⟩ := hF.reg (onR_mem.1 hr).1
    rw [Int.toNat_natCast] at hm
    refine ⟨q', hr, ?_⟩
    rw [Int.toNat_natCast]
    exact hF.vis_down act f q' (by omega) m q hm hq hp hk ha
theorem Sd.legal_iff (hF : Sd xs) {act : List Int} (h0 : act[0]? = some 0) (f : Nat) (hf : xs.length <= f) :
  (act.Pairwise (· < ·) /\ (∀ m, m ∈ vis xs act f 0 -> onOk xs act m.toNat = true) /\ (vis xs act f 0).length = act.length) ↔ Lg xs act := by
 obtain ⟨s, hs, hk1⟩ := hF.rt
 have h0m : (0 : Int) ∈ act := List.mem_of_getElem? h0
 have hst : stK s.k = true := by rw [hk1]; rfl
 obtain ⟨hr, hin⟩ := hF.vis_in act f 0 hs
 have hu := hF.fo.up 0 s hs
 have hva := hF.vis_act act f 0 hs (by exact_mod_cast h0m) hst
 constructor
 · rintro ⟨h1, h2, h3⟩
   have hsub : vis xs act f 0 = act := rise_sub_eq h1 hr (fun x hx => (hva x hx).1) (by omega)
   refine ⟨h0m, h1, fun x hx => ?_⟩
   rw [<- hsub] at hx
   have hi := hin x hx
   obtain ⟨g1, g2, g3⟩ := hva x hx
   exact ⟨by omega, by omega, g2, g3.imp (fun h => by simpa using h) id, h2 x hx⟩
 · intro hL
   have hall : ∀ (n : Nat), (n : Int) ∈ act -> (n : Int) ∈ vis xs act f 0 := by
    intro n
    induction n using Nat.strongRecOn with
    | ind n ih =>
     intro hn
     have hA := hL.at_ n hn
     obtain ⟨t, ht⟩ := get_at (xs := xs) (i := n) (by have := hA.lt; omega)
     have hkd := hA.st
     rw [kd_at ht] at hkd
     rcases hA.up with h | h
     · have : n = 0 := by omega
       subst this
       cases f <;> simp [vis]
     · have hp := h t (by rw [Int.toNat_natCast]; exact ht)
       have hpg := (hL.at_ _ hp).ge
       have hpl := hF.fo.pa_lt ht
       obtain ⟨p, hp'⟩ : ∃ p : Nat, t.pa = p := ⟨t.pa.toNat, by omega⟩
       rw [hp'] at hp
       exact hF.vis_down act f 0 (by omega) p n (ih p (by omega) hp) ht hp' hkd hn
   have heq : vis xs act f 0 = act := rise_ext hr hL.rise fun x => ⟨fun hx => (hva x hx).1, fun hx => by
    have := (hL.at_ x hx).ge
    obtain ⟨n, rfl⟩ : ∃ n : Nat, x = n := ⟨x.toNat, by omega⟩
    exact hall n hx⟩
   refine ⟨hL.rise, fun m hm => ?_, by rw [heq]⟩
   rw [heq] at hm
   exact (hL.at_ m hm).on
end
def sumW (W : Int -> Nat) : List Int -> Nat
 | [] => 0
 | r :: l => W r + sumW W l
def proW (W : Int -> Nat) : List Int -> Nat
 | [] => 1
 | r :: l => W r * proW W l
theorem sumW_snoc (W : Int -> Nat) (r : Int) : ∀ l, sumW W (l ++ [r]) = sumW W l + W r
 | [] => by simp [sumW]
 | x :: l => by rw [List.cons_append, sumW, sumW, sumW_snoc W r l, Nat.add_assoc]
theorem proW_snoc (W : Int -> Nat) (r : Int) : ∀ l, proW W (l ++ [r]) = proW W l * W r
 | [] => by simp [proW]
 | x :: l => by rw [List.cons_append, proW, proW, proW_snoc W r l, Nat.mul_assoc]
theorem sumW_congr {W V : Int -> Nat} : ∀ {l : List Int}, (∀ r, r ∈ l -> W r = V r) -> sumW W l = sumW V l
 | [], _ => rfl
 | x :: l, h => by rw [sumW, sumW, h x (.head _), sumW_congr fun r hr => h r (.tail _ hr)]
theorem proW_congr {W V : Int -> Nat} : ∀ {l : List Int}, (∀ r, r ∈ l -> W r = V r) -> proW W l = proW V l
 | [], _ => rfl
 | x :: l, h => by rw [proW, proW, h x (.head _), proW_congr fun r hr => h r (.tail _ hr)]
theorem sumW_take (W : Int -> Nat) : ∀ (l : List Int) (j : Nat), sumW W (l.take j) <= sumW W l
 | [], j => by simp [sumW]
 | x :: l, 0 => by simp [sumW]
 | x :: l, j + 1 => by rw [List.take_succ_cons, sumW, sumW]; have := sumW_take W l j; omega
theorem proW_pos {W : Int -> Nat} : ∀ {l : List Int}, (∀ r, r ∈ l -> 0 < W r) -> 0 < proW W l
 | [], _ => Nat.one_pos
 | x :: l, h => by rw [proW]; exact Nat.mul_pos (h x (.head _)) (proW_pos fun r hr => h r (.tail _ hr))
theorem proW_take {W : Int -> Nat} : ∀ {l : List Int} (j : Nat), (∀ r, r ∈ l -> 0 < W r) -> proW W (l.take j) <= proW W l
 | [], j, _ => by simp [proW]
 | x :: l, 0, h => by rw [List.take_zero]; exact proW_pos h
 | x :: l, j + 1, h => by rw [List.take_succ_cons, proW, proW]; exact Nat.mul_le_mul_left _ (proW_take j fun r hr => h r (.tail _ hr))
def wy (xs : List Spo) : Nat -> Nat -> Nat
 | 0, _ => 1
 | f + 1, n => if (regs xs n).length = 0 then 1 else if kd xs n = 2 then proW (fun r => wy xs f r.toNat) (regs xs n) else sumW (fun r => wy xs f r.toNat) (regs xs n)
def W (xs : List Spo) (r : Int) : Nat := wy xs xs.length r.toNat
section
variable {xs : List Spo}
theorem wy_fuel (hF : Sd xs) : ∀ (f g n : Nat), xs.length <= n + f -> xs.length <= n + g -> wy xs f n = wy xs g n
 | 0, 0, _, _, _ => rfl
 | 0, g + 1, n, hf, _ => by
  have : regs xs n = [] := List.eq_nil_iff_forall_not_mem.2 fun r hr => by
   obtain ⟨q, t, _, h2, _, _, h5, _⟩ := hF.reg hr
   have := get_lt h2
   omega
  rw [wy, wy, this]
  rfl
 | f + 1, 0, n, _, hg => by
  have : regs xs n = [] := List.eq_nil_iff_forall_not_mem.2 fun r hr => by
   obtain ⟨q, t, _, h2, _, _, h5, _⟩ := hF.reg hr
   have := get_lt h2
   omega
  rw [wy, wy, this]
  rfl
 | f + 1, g + 1, n, hf, hg => by
  have key : ∀ r, r ∈ regs xs n -> wy xs f r.toNat = wy xs g r.toNat := fun r hr => by
   obtain ⟨q, t, rfl, _, _, _, h5, _⟩ := hF.reg hr
   rw [Int.toNat_natCast]
   exact wy_fuel hF f g q (by omega) (by omega)
  rw [wy, wy, sumW_congr key, proW_congr key]
theorem Sd.W_eq (hF : Sd xs) (n : Nat) : W xs n = if (regs xs n).length = 0 then 1 else if kd xs n = 2 then proW (W xs) (regs xs n) else sumW (W xs) (regs xs n) := by
 have h1 : W xs n = wy xs (xs.length + 1) n := by
  unfold W
  rw [Int.toNat_natCast]
  exact wy_fuel hF _ _ n (by omega) (by omega)
 rw [h1, wy]
 rfl
def szO (xs : List Spo) (r : Int) : Nat := (enO xs r - r).toNat
theorem two_le {x y : Nat} (hx : 2 <= x) (hy : 2 <= y) : x + y <= x * y := by
 obtain ⟨a, rfl⟩ : ∃ a, x = a + 2 := ⟨x - 2, by omega⟩
 obtain ⟨b, rfl⟩ : ∃ b, y = b + 2 := ⟨y - 2, by omega⟩
 rw [Nat.add_mul, Nat.mul_add]
 have := Nat.zero_le (a * b)
 omega
theorem pow_two_le {m : Nat} (h : 1 <= m) : 2 <= 2 ^ m := by
 have := Nat.pow_le_pow_right (n := 2) (by decide) h
 simpa using this
theorem sum_pow {V : Int -> Nat} {z : Int -> Nat} : ∀ {l : List Int}, (∀ r, r ∈ l -> 2 * V r <= 2 ^ z r /\ 1 <= z r) -> l ≠ [] -> 2 * sumW V l <= 2 ^ (sumW z l)
 | [], _, h => absurd rfl h
 | [x], h, _ => by simpa [sumW] using (h x (.head _)).1
 | x :: y :: l, h, _ => by
  have h1 := h x (.head _)
  have ih := sum_pow (l := y :: l) (fun r hr => h r (.tail _ hr)) (by simp)
  have hz : 1 <= sumW z (y :: l) := by
   have := (h y (.tail _ (.head _))).2
   rw [sumW]
   omega
  have e1 : sumW V (x :: y :: l) = V x + sumW V (y :: l) := rfl
  have e2 : sumW z (x :: y :: l) = z x + sumW z (y :: l) := rfl
  rw [e1, e2, Nat.pow_add]
  have := two_le (pow_two_le h1.2) (pow_two_le hz)
  omega
theorem pro_pow {V : Int -> Nat} {z : Int -> Nat} : ∀ {l : List Int}, (∀ r, r ∈ l -> 2 * V r <= 2 ^ z r /\ 1 <= z r) -> l ≠ [] -> 2 * proW V l <= 2 ^ (sumW z l)
 | [], _, h => absurd rfl h
 | [x], h, _ => by simpa [sumW, proW] using (h x (.head _)).1
 | x :: y :: l, h, _ => by
  have h1 := h x (.head _)
  have ih := pro_pow (l := y :: l) (fun r hr => h r (.tail _ hr)) (by simp)
  have e1 : proW V (x :: y :: l) = V x * proW V (y :: l) := rfl
  have e2 : sumW z (x :: y :: l) = z x + sumW z (y :: l) := rfl
  rw [e1, e2, Nat.pow_add]
  have : 2 * (V x * proW V (y :: l)) <= (2 * V x) * (2 * proW V (y :: l)) := by
   rw [Nat.mul_assoc, Nat.mul_left_comm (V x) 2]
   have := Nat.zero_le (V x * proW V (y :: l))
   omega
  exact Nat.le_trans this (Nat.mul_le_mul h1.1 ih)
theorem sz_in {z : Int -> Nat} {en : Int -> Int} : ∀ {l : List Int} {lo hi : Int}, l.Pairwise (fun a b => en a <= b) -> (∀ r, r ∈ l -> lo <= r /\ en r <= hi /\ (z r : Int) = en r - r) -> lo <= hi -> (sumW z l : Int) <= hi - lo
 | [], lo, hi, _, _, h => by rw [sumW]; omega
 | x :: l, lo, hi, hp, hm, h => by
  rw [List.pairwise_cons] at hp
  have hx := hm x (.head _)
  have := sz_in (l := l) (lo := en x) (hi := hi) hp.2 (fun r hr => ⟨hp.1 r hr, (hm r (.tail _ hr)).2⟩) hx.2.1
  rw [sumW]
  omega
theorem Sd.sz_regs (hF : Sd xs) {n : Nat} {s : Spo} (hs : xs[n]? = some s) : (sumW (szO xs) (regs xs n) : Int) <= s.en - n - 1 := by
 have hu := hF.fo.up n s hs
 have := sz_in (z := szO xs) (en := enO xs) (l := regs xs n) (lo := n + 1) (hi := s.en) (hF.regs_apart n (regs_rise xs n) fun r hr => hr) (fun r hr => by
  obtain ⟨q, t, rfl, h2, _, _, h5, h6⟩ := hF.reg hr
  have h7 := hF.fo.up q t h2
  have h8 := hF.fo.lam q hs h2 h5 (h6 s hs)
  unfold szO
  rw [enO_at h2]
  exact ⟨by omega, h8, by omega⟩) (by omega)
 omega
theorem Sd.wy_le (hF : Sd xs) : ∀ (f n : Nat) {s : Spo}, xs[n]? = some s -> 1 <= wy xs f n /\ 2 * wy xs f n <= 2 ^ szO xs n
 | 0, n, s, hs => by
  have hu := hF.fo.up n s hs
  have : 1 <= szO xs n := by unfold szO; rw [enO_at hs]; omega
  rw [wy]
  exact ⟨Nat.le_refl _, pow_two_le this⟩
 | f + 1, n, s, hs => by
  have hu := hF.fo.up n s hs
  have hz : 1 <= szO xs n := by unfold szO; rw [enO_at hs]; omega
  rw [wy]
  split
  · exact ⟨Nat.le_refl _, pow_two_le hz⟩
  rename_i hne
  have hne' : regs xs n ≠ [] := fun e => hne (by rw [e]; rfl)
  have key : ∀ r, r ∈ regs xs n -> 2 * wy xs f r.toNat <= 2 ^ szO xs r /\ 1 <= szO xs r := fun r hr => by
   obtain ⟨q, t, rfl, h2, _⟩ := hF.reg hr
   have h7 := hF.fo.up q t h2
   rw [Int.toNat_natCast]
   exact ⟨(hF.wy_le f q h2).2, by unfold szO; rw [enO_at h2]; omega⟩
  have pos : ∀ r, r ∈ regs xs n -> 0 < wy xs f r.toNat := fun r hr => by
   obtain ⟨q, t, rfl, h2, _⟩ := hF.reg hr
   rw [Int.toNat_natCast]
   exact (hF.wy_le f q h2).1
  have hle : 2 ^ sumW (szO xs) (regs xs n) <= 2 ^ szO xs n := Nat.pow_le_pow_right (by decide) (by
   have := hF.sz_regs hs
   unfold szO at *
   rw [enO_at hs]
   omega)
  split
  · exact ⟨proW_pos pos, Nat.le_trans (pro_pow key hne') hle⟩
  · refine ⟨?_, Nat.le_trans (sum_pow key hne') hle⟩
    cases hr : regs xs n with
    | nil => exact absurd hr hne'
    | cons x l =>
     have := pos x (by rw [hr]; exact .head _)
     rw [sumW]
     omega
theorem Sd.W_pos (hF : Sd xs) {n : Nat} {s : Spo} (hs : xs[n]? = some s) : 1 <= W xs n := by
 unfold W
 rw [Int.toNat_natCast]
 exact (hF.wy_le _ n hs).1
theorem Sd.W_sum (hF : Sd xs) {n : Nat} {s : Spo} (hs : xs[n]? = some s) : sumW (W xs) (regs xs n) <= 4611686018427387904 /\ proW (W xs) (regs xs n) <= 4611686018427387904 := by
 have key : ∀ r, r ∈ regs xs n -> 2 * W xs r <= 2 ^ szO xs r /\ 1 <= szO xs r := fun r hr => by
  obtain ⟨q, t, rfl, h2, _⟩ := hF.reg hr
  have h7 := hF.fo.up q t h2
  unfold W
  rw [Int.toNat_natCast]
  exact ⟨(hF.wy_le _ q h2).2, by unfold szO; rw [enO_at h2]; omega⟩
 have hle : 2 ^ sumW (szO xs) (regs xs n) <= 2 ^ 63 := Nat.pow_le_pow_right (by decide) (by
  have := hF.sz_regs hs
  have hu := hF.fo.up n s hs
  have := hF.le
  omega)
 by_cases hr : regs xs n = []
 · rw [hr]
   exact ⟨Nat.zero_le _, by rw [proW]; decide⟩
 · have h1 := sum_pow key hr
   have h2 := pro_pow key hr
   have e63 : 2 ^ 63 = 9223372036854775808 := by decide
   rw [e63] at hle
   omega
theorem Sd.W_le (hF : Sd xs) {n : Nat} {s : Spo} (hs : xs[n]? = some s) : W xs n <= 4611686018427387904 := by
 rw [hF.W_eq n]
 have := hF.W_sum hs
 split
 · decide
 · split
   · exact this.2
   · exact this.1
theorem Sd.W_reg (hF : Sd xs) {n : Nat} {r : Int} (hr : r ∈ regs xs n) : 0 < W xs r := by
 obtain ⟨q, t, rfl, h2, _⟩ := hF.reg hr
 exact hF.W_pos h2
def pick (V : Int -> Nat) : List Int -> Nat -> Option (Int × Nat)
 | [], _ => none
 | r :: l, k => if k < V r then some (r, k) else pick V l (k - V r)
def digs (V : Int -> Nat) : List Int -> Nat -> List Nat × Nat
 | [], k => ([], k)
 | r :: l, k => ((digs V l k).2 % V r :: (digs V l k).1, (digs V l k).2 / V r)
def nthW (xs : List Spo) : Nat -> Nat -> Nat -> List Int
 | 0, n, _ => [(n : Int)]
 | f + 1, n, k => (n : Int) :: if kd xs n = 1 then (match pick (W xs) (regs xs n) k with
  | some (r, k') => nthW xs f r.toNat k'
  | none => []) else ((regs xs n).zip (digs (W xs) (regs xs n) k).1).flatMap fun p => nthW xs f p.1.toNat p.2
def rkL (xs : List Spo) (act : List Int) (par : Bool) (rec : Int -> Nat) : List Int -> Nat -> Nat
 | [], k => k
 | r :: l, k => if par then rkL xs act par rec l (k * W xs r + rec r) else if r ∈ act then k + rec r else rkL xs act par rec l (k + W xs r)
def rkW (xs : List Spo) (act : List Int) : Nat -> Nat -> Nat
 | 0, _ => 0
 | f + 1, n => rkL xs act (kd xs n == 2) (fun r => rkW xs act f r.toNat) (regs xs n) 0
theorem pick_mem {V : Int -> Nat} : ∀ {l : List Int} {k : Nat} {r : Int} {k' : Nat}, pick V l k = some (r, k') -> r ∈ l /\ k' < V r
 | [], _, _, _, h => by cases h
 | x :: l, k, r, k', h => by
  rw [pick] at h
  split at h
  · injection h with h
    injection h with h1 h2
    subst h1 h2
    exact ⟨.head _, by assumption⟩
  · obtain ⟨h1, h2⟩ := pick_mem h
    exact ⟨.tail _ h1, h2⟩
theorem nth_in (hF : Sd xs) : ∀ (f n k : Nat) {s : Spo}, xs[n]? = some s -> (nthW xs f n k).Pairwise (· < ·) /\ ∀ x, x ∈ nthW xs f n k -> (n : Int) <= x /\ x < s.en
 | 0, n, k, s, hs => by
  have := hF.fo.up n s hs
  rw [nthW]
  exact ⟨by simp, fun x hx => by rw [List.mem_singleton] at hx; omega⟩
 | f + 1, n, k, s, hs => by
  have hu := hF.fo.up n s hs
  rw [nthW]
  have key : ∀ (r : Int) (d : Nat), r ∈ regs xs n -> (nthW xs f r.toNat d).Pairwise (· < ·) /\ (∀ x, x ∈ nthW xs f r.toNat d -> r <= x /\ x < enO xs r) /\ (n : Int) < r /\ enO xs r <= s.en := fun r d hr => by
   obtain ⟨q, t, rfl, h2, _, _, h5, h6⟩ := hF.reg hr
   rw [Int.toNat_natCast, enO_at h2]
   obtain ⟨h7, h8⟩ := nth_in hF f q d h2
   exact ⟨h7, h8, by omega, hF.fo.lam q hs h2 h5 (h6 s hs)⟩
  have fin : ∀ (L : List Int), L.Pairwise (· < ·) -> (∀ x, x ∈ L -> (n : Int) < x /\ x < s.en) -> ((n : Int) :: L).Pairwise (· < ·) /\ ∀ x, x ∈ (n : Int) :: L -> (n : Int) <= x /\ x < s.en := fun L h1 h2 => ⟨List.pairwise_cons.2 ⟨fun x hx => (h2 x hx).1, h1⟩, fun x hx => by
   rw [List.mem_cons] at hx
   rcases hx with rfl | hx
   · omega
   · have := h2 x hx
     omega⟩
  split
  · cases hp : pick (W xs) (regs xs n) k with
    | none => exact fin [] (by simp) (by simp)
    | some p =>
     obtain ⟨r, k'⟩ := p
     obtain ⟨h1, h2, h3, h4⟩ := key r k' (pick_mem hp).1
     exact fin _ h1 fun x hx => by have := h2 x hx; omega
  · have hz : ((regs xs n).zip (digs (W xs) (regs xs n) k).1).Pairwise fun a b => enO xs a.1 <= b.1 := by
     have h1 := hF.regs_apart n (regs_rise xs n) fun r hr => hr
     have : (((regs xs n).zip (digs (W xs) (regs xs n) k).1).map Prod.fst).Pairwise fun a b => enO xs a <= b := by
      have hsub : ((regs xs n).zip (digs (W xs) (regs xs n) k).1).map Prod.fst = (regs xs n).take ((digs (W xs) (regs xs n) k).1.length) := by
       generalize (digs (W xs) (regs xs n) k).1 = ds
       generalize regs xs n = rs
       induction rs generalizing ds with
       | nil => simp
       | cons r rs ih =>
        cases ds with
        | nil => simp
        | cons d ds => simp [ih]
      rw [hsub]
      exact h1.sublist (List.take_sublist _ _)
     rwa [List.pairwise_map] at this
    refine fin _ (flat_rise (f := fun p : Int × Nat => nthW xs f p.1.toNat p.2) (lo := fun p => p.1) (hi := fun p => enO xs p.1) hz fun p hp => ?_) fun x hx => ?_
    · have := key p.1 p.2 (List.of_mem_zip hp).1
      exact ⟨this.1, this.2.1⟩
    · obtain ⟨p, hp, hx⟩ := List.mem_flatMap.1 hx
      obtain ⟨_, h2, h3, h4⟩ := key p.1 p.2 (List.of_mem_zip hp).1
      have := h2 x hx
      omega
theorem nth_len (hF : Sd xs) (f n k : Nat) {s : Spo} (hs : xs[n]? = some s) : (nthW xs f n k).length <= 64 := by
 obtain ⟨h1, h2⟩ := nth_in hF f n k hs
 have hu := hF.fo.up n s hs
 have hle := hF.le
 have := rise_len h1 h2 (by omega)
 omega
end
end Go.Proofs.Ytddfmhccaapgjaa.Con
namespace Go.Proofs.Ytddfmhccaapgjaa.Con
open Go Go.RowKit Go.Kt Go.Kt.V Go.Proofs.Ytddfmhccaapgjaa.Vc
set_option linter.unusedSimpArgs false
set_option linter.unusedVariables false
set_option maxHeartbeats 800000
set_option maxRecDepth 100000
structure ClI (w : World) (S : Nat -> Prop) (fid : FuncId) (cap : List Value) (l : List Int) (p : Int -> Bool) : Prop where
 en : ∀ (args : Array Value) (w : World), (callFunc fid args).run Try.prog w = .ok (.enter fid args) w
 call : ∀ x, x ∈ l -> ∀ u, OnlyP S w u -> Calls Try.prog fid ((.int .i64 x :: cap) : List Value).toArray u fun e u' => e = .returned (.bool (p x)) /\ Only [] u u'
section
variable {w : World} {s : Sl} {l : List Int} {B fid : Nat} {cap : List Value} {p : Int -> Bool}
theorem indexI {S F : Nat -> Prop} (hs : SliceF rInt 1 w F s l) (hl : l.length <= 2000000) (hF : ∀ k, F k -> S k) (hc : ClI w (fun _ => False) fid cap l p) {f : OV} (hf : f.v = .func (.func fid) #[] cap.toArray) :
  Calls Try.prog 47 #[s.v, f.v] w fun e w' => (∃ i : Int, e = .returned (.int .i64 i) /\ ((i = -1 /\ ∀ x, x ∈ l -> p x = false) ∨ ∃ n : Nat, i = (n : Int) /\ n < l.length /\ (l.take n).filter (fun x => !p x) = l.take n /\ ∀ x, l[n]? = some x -> p x = true)) /\ Only [] w w' := by
 refine (v96w s f (fun v w' => (∃ i : Int, v = .int .i64 i /\ ((i = -1 /\ ∀ x, x ∈ l -> p x = false) ∨ ∃ n : Nat, i = (n : Int) /\ n < l.length /\ (l.take n).filter (fun x => !p x) = l.take n /\ ∀ x, l[n]? = some x -> p x = true)) /\ Only [] w w') w ?_).mono (by rintro _ w' ⟨v, rfl, ⟨i, rfl, h⟩, h'⟩; exact ⟨⟨i, rfl, h⟩, h'⟩)
 unfold v96v
 have hn := hs.len
 refine ⟨fun kv i u => ∃ j : Nat, i = (j : Int) /\ kv + j = l.length /\ j <= l.length /\ (∀ x, x ∈ l.take j -> p x = false) /\ Only [] w u, l.length, ⟨0, rfl, by omega, Nat.zero_le _, by simp, Only.refl _ _⟩, ?_⟩
 rintro kv _ u ⟨j, rfl, hkv, hj, hp, hO⟩
 refine ⟨fun hcc => ?_, fun hcc => ?_⟩
 · have hcc := of_decide_eq_true hcc
   have hjl : j < l.length := by omega
   obtain ⟨ad, a1, a2⟩ := int_at (kI hs hO) (List.getElem?_eq_getElem hjl)
   refine ⟨ad, a1, _, a2, fid, [], cap, hf, hc.en, (hc.call _ (List.getElem_mem hjl) u hO.p0).mono ?_⟩
   rintro _ u' ⟨rfl, hO'⟩
   have htk : l.take (j + 1) = l.take j ++ [l[j]] := by rw [List.take_add_one, List.getElem?_eq_getElem hjl]; rfl
   refine ⟨_, rfl, fun ht => ⟨⟨_, rfl, .inr ⟨j, rfl, hjl, ?_, fun x hx => ?_⟩⟩, hO.tr0 hO'⟩, fun hf => ⟨kv - 1, by omega, j + 1, by rw [wr' (by omega) (by omega)]; rfl, by omega, by omega, fun x hx => ?_, hO.tr0 hO'⟩⟩
   · rw [List.filter_eq_self]
     intro x hx
     rw [hp x hx]; rfl
   · rw [List.getElem?_eq_getElem hjl] at hx
     injection hx with hx
     rw [<- hx]; exact ht
   · rw [htk, List.mem_append, List.mem_singleton] at hx
     rcases hx with hx | rfl
     · exact hp x hx
     · exact hf
 · have hcc := of_decide_eq_false hcc
   rw [List.take_of_length_le (by omega)] at hp
   exact ⟨⟨-1, rfl, .inl ⟨rfl, hp⟩⟩, hO⟩
theorem deleteI (hs : OwnI B w s l) (hl : l.length <= 2000000) (hc : ClI w (fun k => s.a = some ⟨k, 0, none⟩) fid cap l p) {f : OV} (hf : f.v = .func (.func fid) #[] cap.toArray) :
  Calls Try.prog 38 #[s.v, f.v] w fun e w' => ∃ s' : Sl, e = .returned s'.v /\ s'.a = s.a /\ s'.c = s.c /\ OwnI B w' s' (l.filter fun x => !p x) /\ OnlyP (fun k => s.a = some ⟨k, 0, none⟩) w w' := by
 refine (v95w s f (fun v w' => ∃ s' : Sl, v = s'.v /\ s'.a = s.a /\ s'.c = s.c /\ OwnI B w' s' (l.filter fun x => !p x) /\ OnlyP (fun k => s.a = some ⟨k, 0, none⟩) w w') w ?_).mono (by rintro _ w' ⟨v, rfl, s', rfl, h⟩; exact ⟨s', rfl, h⟩)
 unfold v95v
 have hn := hs.len
 have hcap := hs.cap
 refine (indexI (S := fun _ => True) hs.sl hl (fun _ _ => trivial) ⟨hc.en, fun x hx u hO => hc.call x hx u (hO.mono fun k _ h => h.elim)⟩ hf).mono ?_
 rintro _ w1 ⟨⟨i, rfl, hi⟩, hO1⟩
 have hs1 : OwnI B w1 s l := hs.keep rInt_ok fun k _ hlt => hO1.block k hlt (by simp)
 refine ⟨i, rfl, fun h1 => ?_, fun h1 => ?_⟩
 · have h1 : i = -1 := by simpa using h1
   rcases hi with ⟨_, hi⟩ | ⟨n, rfl, _⟩
   · have : l.filter (fun x => !p x) = l := by
      rw [List.filter_eq_self]
      intro x hx
      rw [hi x hx]; rfl
     rw [this]
     exact ⟨s, rfl, rfl, rfl, hs1, hO1.p0⟩
   · omega
 · have h1 : i ≠ -1 := by simpa using h1
   rcases hi with ⟨hi, _⟩ | ⟨n, rfl, hnl, hft, hpn⟩
   · exact absurd hi h1
   rw [wr' (x := (n : Int) + 1) (by omega) (by omega)]
   refine ⟨fun kv i j u => ∃ (a b : Nat) (ys : List Int), i = (a : Int) /\ j = (b : Int) /\ a < b /\ b <= l.length /\ kv = l.length - b /\ ys.length = l.length /\ ys.take a = (l.take b).filter (fun x => !p x) /\ ys.drop b = l.drop b /\ OwnI B u s ys /\ OnlyP (fun k => s.a = some ⟨k, 0, none⟩) w u, l.length - (n + 1), ⟨n, n + 1, l, rfl, by omega, by omega, by omega, rfl, rfl, ?_, rfl, hs1, hO1.p0⟩, ?_⟩
   · have : l.take (n + 1) = l.take n ++ [l[n]] := by rw [List.take_add_one, List.getElem?_eq_getElem hnl]; rfl
     rw [this, List.filter_append, hft]
     simp [hpn _ (List.getElem?_eq_getElem hnl)]
   · rintro kv _ _ w2 ⟨a, b, ys, rfl, rfl, hab, hbl, rfl, hyl, hya, hyb, hown, hO2⟩
     refine ⟨fun hc2 => ?_, fun hc2 => ?_⟩
     · have hc2 : (b : Int) < s.n := of_decide_eq_true hc2
       have hb' : b < l.length := by omega
       rw [wr' (x := (b : Int) + 1) (by omega) (by omega)]
       have hyb' : ys[b]? = some l[b] := by
        have := congrArg List.head? hyb
        rw [List.head?_drop, List.head?_drop, List.getElem?_eq_getElem hb'] at this
        exact this
       have htk : l.take (b + 1) = l.take b ++ [l[b]] := by rw [List.take_add_one, List.getElem?_eq_getElem hb']; rfl
       have hdr : ys.drop (b + 1) = l.drop (b + 1) := by
        have := congrArg (List.drop 1) hyb
        simpa [List.drop_drop] using this
       obtain ⟨ad, a1, a2⟩ := int_at hown.sl hyb'
       obtain ⟨cs, hin⟩ := hown.sl.mem (List.mem_of_getElem? hyb')
       refine ⟨fun i1 u => ∃ (a' : Nat) (ys' : List Int), i1 = (a' : Int) /\ a' < b + 1 /\ ys'.length = l.length /\ ys'.take a' = (l.take (b + 1)).filter (fun x => !p x) /\ ys'.drop (b + 1) = l.drop (b + 1) /\ OwnI B u s ys' /\ OnlyP (fun k => s.a = some ⟨k, 0, none⟩) w u, ?_, ad, a1, _, a2, fid, [], cap, hf, hc.en, (hc.call _ (List.getElem_mem hb') w2 hO2).mono ?_⟩
       · rintro _ w3 ⟨a', ys', rfl, q1, q2, q3, q4, q5, q6⟩
         exact ⟨l.length - (b + 1), by omega, a', b + 1, ys', rfl, by omega, q1, by omega, rfl, q2, q3, q4, q5, q6⟩
       · rintro _ w5 ⟨rfl, hO5⟩
         have hown5 : OwnI B w5 s ys := hown.keep rInt_ok fun k _ hlt => hO5.block k hlt (by simp)
         have hO05 := hO2.tr0 hO5
         refine ⟨_, rfl, fun hp1 => ?_, fun hp1 => ?_⟩
         · have hp1 : p l[b] = false := by simpa using hp1
           obtain ⟨g, cells, p1, p2, p3, p4, p5⟩ := Own.store (x := l[b]) (n := a) (vs := [.int .i64 l[b]]) (G := fun _ => False) rInt_ok hown5 (by omega) rfl ⟨rfl, hin.2⟩ (fun k hk _ => hk.elim) (by decide)
           refine ⟨_, p2, g, a * 1, cells, _, rfl, p3, p4, fun w6 hO6 hb6 => ?_⟩
           rw [wr' (x := (a : Int) + 1) (by omega) (by omega)]
           refine ⟨a + 1, ys.set a l[b], by omega, by omega, by rw [List.length_set]; exact hyl, ?_, ?_, p5 w6 hO6 hb6, hO05.trans (hO6.p (F := fun k => s.a = some ⟨k, 0, none⟩) fun k hk => .inl (by simp only [List.mem_singleton] at hk; rw [hk]; exact p1)) fun k hk => .inl hk⟩
           · rw [List.take_add_one, List.take_set_of_le (Nat.le_refl _), hya, List.getElem?_set_self (by omega), htk, List.filter_append]
             simp [hp1]
           · rw [List.drop_set_of_lt (by omega)]; exact hdr
         · have hp1 : p l[b] = true := by simpa using hp1
           refine ⟨a, ys, rfl, by omega, hyl, ?_, hdr, hown5, hO05⟩
           rw [htk, List.filter_append, hya]
           simp [hp1]
     · have hc2 : ¬ (b : Int) < s.n := of_decide_eq_false hc2
       have hbl' : b = l.length := by omega
       subst hbl'
       rw [List.take_of_length_le (Nat.le_refl _)] at hya
       obtain ⟨w3, g, k1, k2, k3, k4⟩ := Own.clear (P := Try.prog) (t := 30) (ty := 0) (i := a) rInt_ok (by decide) (by kernel_rfl) (fun w => Try.zeroValue3 w) (by intro v hv; simp [Value.cells] at hv; rcases hv with rfl <;> rfl) rfl hown (by omega)
       refine ⟨a, ⟨rfl, by omega, hcap⟩, w3, k1, a, ⟨rfl, by omega⟩, _, rfl, ?_, ?_, by rw [<- hya]; exact k4, hO2.trans (k3.p (F := fun k => s.a = some ⟨k, 0, none⟩) fun k hk => .inl (by simp only [List.mem_singleton] at hk; rw [hk]; exact k2)) fun k hk => .inl hk⟩
       · simp only [Sl.cut]
         split
         · rfl
         · rw [k2]; rfl
       · exact Nat.sub_zero _
end
section
variable {w : World} {F G : Nat -> Prop} {l sa : Sl} {xs : List Spo} {is : List Int}
theorem hasr_c (h : SliceF rInt 1 w F sa is) (n : Int) (hm : is.length <= 4611686018427387903) : Calls Try.prog 36 #[sa.v, .int .i64 n] w fun e w' => e = .returned (.bool (decide (n ∈ is))) /\ w' = w := by
 refine ret (v87w sa n (fun v w' => v = .bool (decide (n ∈ is)) /\ w' = w) w ?_)
 unfold v87v
 have hl := h.len
 refine ⟨fun kv i u => ∃ j : Nat, i = (j : Int) /\ kv + j = is.length /\ j <= is.length /\ n ∉ is.take j /\ w = u, is.length, ⟨0, rfl, by omega, Nat.zero_le _, by simp, rfl⟩, ?_⟩
 rintro kv _ _ ⟨j, rfl, hkv, hj, hn, rfl⟩
 refine ⟨fun hc => ?_, fun hc => ?_⟩
 · have hc := of_decide_eq_true hc
   have hjl : j < is.length := by omega
   obtain ⟨ad, a1, a2⟩ := int_at h (List.getElem?_eq_getElem hjl)
   refine ⟨ad, a1, _, a2, fun he => ?_, fun he => ⟨kv - 1, by omega, j + 1, by rw [wr' (by omega) (by omega)]; rfl, by omega, by omega, ?_, rfl⟩⟩
   · have he : is[j] = n := by simpa using he
     exact ⟨by rw [decide_eq_true (by rw [<- he]; exact List.getElem_mem hjl)], rfl⟩
   · have he : ¬ is[j] = n := by simpa using he
     rw [List.take_add_one, List.getElem?_eq_getElem hjl, List.mem_append]
     rintro (h | h)
     · exact hn h
     · simp only [Option.toList, List.mem_singleton] at h
       exact he h.symm
 · have hc := of_decide_eq_false hc
   rw [List.take_of_length_le (by omega)] at hn
   exact ⟨by rw [decide_eq_false hn], rfl⟩
theorem wp_int {w u : World} {s : Sl} {is : List Int} {B : Nat} (h : OwnI B w s is) (hO : Only [] w u) : OwnI B u s is := h.keep rInt_ok fun k _ hlt => hO.block k hlt (by simp)
theorem kidsr_c (h : SliceF rSp 5 w F l xs) (n : Nat) (hm : xs.length <= 1000) : Calls Try.prog 46 #[l.v, .int .i64 (n : Int)] w fun e w' => (∃ (s : Sl), e = .returned (Sl.v s) /\ OwnI w.heap.size w' s (kidsOf xs n xs.length)) /\ Only [] w w' := by
 refine (v70w l n (fun v w' => (∃ (s : Sl), v = Sl.v s /\ OwnI w.heap.size w' s (kidsOf xs n xs.length)) /\ Only [] w w') w ?_).mono (by rintro _ w' ⟨v, rfl, ⟨s, rfl, h⟩, h'⟩; exact ⟨⟨s, rfl, h⟩, h'⟩)
 unfold v70v
 have hl := h.len
 refine ⟨fun kv q i u => ∃ j : Nat, i = (j : Int) /\ kv + j = xs.length /\ j <= xs.length /\ OwnI w.heap.size u q (kidsOf xs n j) /\ Only [] w u, xs.length, ⟨0, rfl, by omega, Nat.zero_le _, Own.nil _ _ _ _ _ _, Only.refl _ _⟩, ?_⟩
 rintro kv q _ u ⟨j, rfl, hkv, hj, hS, hO⟩
 refine ⟨fun hc => ?_, fun hc => ?_⟩
 · have hc := of_decide_eq_true hc
   obtain ⟨y, hy⟩ := get_at (xs := xs) (i := j) (by omega)
   obtain ⟨ad, a1, _, a3, _⟩ := sp_at (SliceF.only rSp_ok (by decide) h hO (by simp)) hy
   have hlen : (kidsOf xs n j).length <= j := by
    unfold kidsOf
    rw [List.length_map]
    exact Nat.le_trans (List.length_filter_le _ _) (by rw [List.length_range]; exact Nat.le_refl _)
   refine ⟨fun q' u => OwnI w.heap.size u q' (kidsOf xs n (j + 1)) /\ Only [] w u, fun q' u ⟨h1, h2⟩ => ⟨kv - 1, by omega, j + 1, by rw [wr' (by omega) (by omega)]; rfl, by omega, by omega, h1, h2⟩, ad, a1, _, a3, fun hb => ?_, fun hb => ⟨?_, hO⟩⟩
   · rw [Bool.and_eq_true, beq_iff_eq] at hb
     obtain ⟨y1, w2, k1, k3, s', w3, g1, g2, g3, g4⟩ := addI w hS hO j ⟨by omega, by omega⟩ (by omega)
     refine ⟨y1, w2, k1, s', w3, g1, ?_, g3⟩
     rw [kidsOf_succ, if_pos (by rw [hy]; exact congrArg some hb.1)]
     exact g2
   · rw [kidsOf_succ, if_neg, List.append_nil]
     · exact hS
     · rw [hy]
       intro e
       injection e with e
       have e : y.pa = n := e
       rw [e] at hb
       simp at hb
 · have hc := of_decide_eq_false hc
   have : j = xs.length := by omega
   subst this
   exact ⟨⟨q, rfl, hS⟩, hO⟩
theorem hist_st {k : Int} (h : 1 <= k /\ k <= 4) : (!((k == 3) || (k == 4))) = stK k := by
 unfold stK
 rcases h with ⟨h1, h2⟩
 rcases (show k = 1 ∨ k = 2 ∨ k = 3 ∨ k = 4 by omega) with rfl | rfl | rfl | rfl <;> rfl
theorem regionsr_c (h : SliceF rSp 5 w F l xs) (hF : Sd xs) (n : Nat) : Calls Try.prog 35 #[l.v, .int .i64 (n : Int)] w fun e w' => (∃ (s : Sl), e = .returned (Sl.v s) /\ OwnI w.heap.size w' s (regs xs n)) /\ Only [] w w' := by
 have hm := hF.le
 refine (v91w l n (fun v w' => (∃ (s : Sl), v = Sl.v s /\ OwnI w.heap.size w' s (regs xs n)) /\ Only [] w w') w ?_).mono (by rintro _ w' ⟨v, rfl, ⟨s, rfl, h⟩, h'⟩; exact ⟨⟨s, rfl, h⟩, h'⟩)
 unfold v91v
 refine (kidsr_c h n (by omega)).mono ?_
 rintro _ w0 ⟨⟨s0, rfl, hS0⟩, hO0⟩
 have hl0 := hS0.len
 have hkl : (kidsOf xs n xs.length).length <= xs.length := by
  unfold kidsOf
  rw [List.length_map]
  exact Nat.le_trans (List.length_filter_le _ _) (by rw [List.length_range]; exact Nat.le_refl _)
 have hkm : ∀ k, k ∈ kidsOf xs n xs.length -> ∃ (q : Nat) (t : Spo), k = q /\ xs[q]? = some t := fun k hk => by
  obtain ⟨q, t, h1, _, h3, _⟩ := mem_kids.1 hk
  exact ⟨q, t, h1, h3⟩
 have e0 : regs xs n = (kidsOf xs n xs.length).filter fun k => stK (kd xs k) := rfl
 rw [e0]
 generalize kidsOf xs n xs.length = ks at *
 refine ⟨s0, rfl, fun kv q i u => ∃ j : Nat, i = (j : Int) /\ kv + j = ks.length /\ j <= ks.length /\ OwnI w.heap.size u q ((ks.take j).filter fun k => stK (kd xs k)) /\ OwnI w.heap.size u s0 ks /\ (q.a = none ∨ q.a ≠ s0.a) /\ Only [] w u /\ w0.heap.size <= u.heap.size, ks.length, ⟨0, rfl, by omega, Nat.zero_le _, Own.nil _ _ _ _ _ _, hS0, .inl rfl, hO0, Nat.le_refl _⟩, ?_⟩
 rintro kv q _ u ⟨j, rfl, hkv, hj, hq, hS, hne, hO, hz⟩
 refine ⟨fun hc => ?_, fun hc => ?_⟩
 · have hc := of_decide_eq_true hc
   have hjl : j < ks.length := by omega
   obtain ⟨ad, a1, a2⟩ := int_at hS.sl (List.getElem?_eq_getElem hjl)
   obtain ⟨m, t, hm1, hm2⟩ := hkm _ (List.getElem_mem hjl)
   obtain ⟨ad2, b1, b2, _⟩ := sp_at (SliceF.only rSp_ok (by decide) h hO (by simp)) hm2
   have htk : (ks.take (j + 1)).filter (fun k => stK (kd xs k)) = (ks.take j).filter (fun k => stK (kd xs k)) ++ if stK t.k = true then [(m : Int)] else [] := by
    rw [List.take_add_one, List.getElem?_eq_getElem hjl, List.filter_append, hm1]
    congr 1
    show List.filter _ [(m : Int)] = _
    rw [List.filter_cons, kd_at hm2, List.filter_nil]
   have hfl : ((ks.take j).filter fun k => stK (kd xs k)).length <= 64 := by
    refine Nat.le_trans (List.length_filter_le _ _) ?_
    rw [List.length_take]; omega
   refine ⟨fun q' u => OwnI w.heap.size u q' ((ks.take (j + 1)).filter fun k => stK (kd xs k)) /\ OwnI w.heap.size u s0 ks /\ (q'.a = none ∨ q'.a ≠ s0.a) /\ Only [] w u /\ w0.heap.size <= u.heap.size, fun q' u ⟨h1, h2⟩ => ⟨kv - 1, by omega, j + 1, by rw [wr' (by omega) (by omega)]; rfl, by omega, by omega, h1, h2⟩, ad, a1, _, a2, ad2, by rw [hm1]; exact b1, t.k, b2.part 0 fun i v hi => one_part hi rfl, (rhistory_c u t.k).mono ?_⟩
   rintro _ u' ⟨rfl, hu'⟩
   obtain rfl : u = u' := hu'.symm
   refine ⟨_, rfl, ?_, ?_⟩
   · rw [hist_st (hF.kn m t hm2)]
     intro hb
     obtain ⟨y1, w2, k1, k3, s', w3, g1, g2, ⟨gs, g3, g4⟩, g5⟩ := app_one (P := Try.prog) (t := 30) (ty := 30) (e := 3) (i := Try.t3) (bytes := 8) (size := 1) (r := rInt) (G := fun _ => False) (v := .int .i64 (ks[j])) (x := ks[j]) (by kernel_rfl) (by kernel_rfl) rfl rfl rfl rfl (by decide) (by decide) (by decide) rInt_ok hq hO.size rfl ⟨rfl, by rw [hm1]; exact ⟨by omega, by have := get_lt hm2; omega⟩⟩ (fun _ h => h.elim) (by omega)
     have z3 := g3.size
     have z2 := k3.size
     refine ⟨ad, a1, _, a2, y1, w2, k1, s', w3, g1, ?_, ?_, ?_, ?_, by omega⟩
     · rw [htk, if_pos hb, <- hm1]
       exact OwnI.of g2
     · refine (wp_int hS k3).keep rInt_ok fun k hk hlt => g3.block k hlt fun hh => ?_
       have hh' := g4 _ hh
       rcases hk with hk | ⟨_, hk⟩
       · exact hk
       rcases hne with hne | hne
       · rw [hne] at hh'; cases hh'.1
       · exact hne (hh'.1.trans hk.symm)
     · rcases g5 with e | ⟨g, e, hg⟩
       · rw [e]; exact hne
       · right
         rw [e]
         intro hh
         have := hS.blk hh.symm
         dsimp only at this
         omega
     · exact ((hO.tr0 k3).trP (g3.p (F := fun k => w.heap.size <= k) fun g hg => .inl (g4 g hg).2.1)).only fun k hk => hk
   · rw [hist_st (hF.kn m t hm2)]
     intro hb
     refine ⟨?_, hS, hne, hO, hz⟩
     rw [htk, if_neg (by rw [hb]; decide), List.append_nil]
     exact hq
 · have hc := of_decide_eq_false hc
   have : j = ks.length := by omega
   subst this
   rw [List.take_of_length_le (Nat.le_refl _)] at hq
   exact ⟨⟨q, rfl, hq⟩, hO⟩
end
section
variable {w : World} {F G : Nat -> Prop} {l sa : Sl} {xs : List Spo} {act : List Int}
theorem sp_uP {u : World} {S : Nat -> Prop} (h : SliceF rSp 5 w F l xs) (hO : OnlyP S w u) (hS : ∀ k, F k -> k < w.heap.size -> ¬ S k) : SliceF rSp 5 u F l xs := SliceF.onlyP rSp_ok (by decide) h hO hS
theorem state_c (w : World) (k : Int) : Calls Try.prog 41 #[.int .i64 k] w fun e w' => e = .returned (.bool (stK k)) /\ w' = w := by
 refine ret (v13w k (fun v w' => v = .bool (stK k) /\ w' = w) w ?_)
 unfold v13v
 exact ⟨rfl, rfl⟩
theorem regions1_c {k0 t : Nat} (h : SliceF rSp 5 w F l xs) (hB : Blk w k0 t [l.v]) {q : Nat} {s : Spo} (hq : xs[q]? = some s) : Calls Try.prog 40 #[.int .i64 (q : Int), .pointer (some ⟨k0, 0, none⟩)] w fun e w' => e = .returned (.bool (!(stK s.k))) /\ w' = w := by
 refine ret (v11w q ⟨k0, 0, none⟩ (fun v w' => v = .bool (!(stK s.k)) /\ w' = w) w ?_)
 unfold v11v
 obtain ⟨ad, a1, a2, _⟩ := sp_at h hq
 refine ⟨l, hB.cells 0 _ (by simp), ad, a1, s.k, a2.part 0 fun i v hi => one_part hi rfl, (state_c w s.k).mono ?_⟩
 rintro _ u ⟨rfl, hu⟩
 exact ⟨_, rfl, rfl, hu⟩
theorem regions_c (h : SliceF rSp 5 w F l xs) (hF : Sd xs) {n : Nat} {x : Spo} (hx : xs[n]? = some x) : Calls Try.prog 26 #[l.v, .int .i64 (n : Int)] w fun e w' => (∃ (s : Sl), e = .returned (Sl.v s) /\ OwnI w.heap.size w' s (regs xs n)) /\ Only [] w w' := by
 have hm := hF.le
 refine (v12w l n (fun v w' => (∃ (s : Sl), v = Sl.v s /\ OwnI w.heap.size w' s (regs xs n)) /\ Only [] w w') w ?_).mono (by rintro _ w' ⟨v, rfl, ⟨s, rfl, h⟩, h'⟩; exact ⟨⟨s, rfl, h⟩, h'⟩)
 unfold v12v
 intro k0 w0 hk0 hk0' hO0
 have z0 := hO0.size
 refine (kids_c (SliceF.only rSp_ok (by decide) h hO0 (by simp)) hF.fo hx (by omega)).mono ?_
 rintro _ w1 ⟨⟨s1, rfl, hS1⟩, hO1⟩
 have z1 := hO1.size
 refine ⟨s1, rfl, hO1.same (by simp; omega), fun hB => ?_⟩
 have hkl : (kidsOf xs n xs.length).length <= xs.length := by
  unfold kidsOf
  rw [List.length_map]
  exact Nat.le_trans (List.length_filter_le _ _) (by rw [List.length_range]; exact Nat.le_refl _)
 have o1 := hO0.tr0 hO1
 have h1 : SliceF rSp 5 w1 (fun k => F k /\ k < w.heap.size) l xs := SliceF.only rSp_ok (by decide) (SliceF.inHeap rSp_ok h (by decide)) o1 (by simp)
 have hnk : s1.a ≠ some ⟨k0, 0, none⟩ := fun e => by
  have := (hS1.blk e).1
  dsimp only at this
  omega
 refine (deleteI (f := ⟨.func (.func 40) #[] #[.pointer (some ⟨k0, 0, none⟩)], rfl⟩) hS1 (by omega) ⟨fnOk_run (by kernel_rfl), fun y hy u hO => ?_⟩ (p := fun k => !(stK (kd xs k))) (cap := [.pointer (some ⟨k0, 0, none⟩)]) rfl).mono ?_
 · obtain ⟨q, t, rfl, _, h2, _⟩ := mem_kids.1 hy
   rw [kd_at h2]
   refine (regions1_c (sp_uP h1 hO fun k hk _ e => ?_) (hO.blk hB hnk) h2).mono ?_
   · have := (hS1.blk e).1
     dsimp only at this
     omega
   · rintro _ u' ⟨rfl, hu⟩
     obtain rfl : u = u' := hu.symm
     exact ⟨rfl, Only.refl _ _⟩
 · rintro _ w2 ⟨s2, rfl, hsa, _, hS2, hO2⟩
   refine ⟨s2, rfl, l, hO2.blk hB hnk, ⟨s2, rfl, ?_⟩, (o1.trP (hO2.mono (G := fun k => w.heap.size <= k) fun k _ e => by have := (hS1.blk e).1; dsimp only at this; omega)).only fun k hk => hk⟩
   have : (kidsOf xs n xs.length).filter (fun x => !!(stK (kd xs x))) = regs xs n := by
    unfold regs
    congr 1
    funext k
    rw [Bool.not_not]
   rw [this] at hS2
   exact Own.low hS2 (by omega)
theorem bs_c (ha : SliceF rInt 1 w G sa act) (hr : act.Pairwise (· < ·)) (hne : act ≠ []) (hm : act.length <= 1000000000) (x : Int) : Calls Try.prog 27 #[sa.v, .int .i64 x] w fun e w' => (∃ i : Int, e = .returned (.tuple #[.int .i64 i, .bool (decide (x ∈ act))])) /\ Only [] w w' := by
 obtain ⟨a, n, c⟩ := sa
 have hl := ha.len
 dsimp only at hl
 have h0 : 0 < act.length := List.length_pos_iff.2 hne
 obtain ⟨base, cs, e1, _, hlen, c0, _⟩ := ha.at_ 0 _ (List.getElem?_eq_getElem h0)
 dsimp only at e1
 obtain ⟨b, o, sp⟩ := base
 have hsp : sp = none := by
  have := c0
  cases cs with
  | nil => cases hlen
  | cons v cs =>
   have hc := c0 0 v rfl
   exact World.cell?_spot hc
 subst hsp e1 hl
 have hcell : ∀ j, j < act.length -> w.cell? ⟨b, o + j, none⟩ = some (.int .i64 (act.getD j 0)) := fun j hj => by
  obtain ⟨base, cs, e1, _, _, c0, hc, _⟩ := ha.at_ j _ (List.getElem?_eq_getElem hj)
  injection e1 with e1
  subst e1 hc
  have := c0 0 _ rfl
  rw [addr_lit, addr_lit] at this
  rw [List.getD_eq_getElem?_getD, List.getElem?_eq_getElem hj]
  simpa using this
 refine (Try.slices_BinarySearch_int b o act.length c act x w (Nat.le_refl _) (by omega) hcell (by
  rw [List.take_of_length_le (Nat.le_refl _)]
  exact hr.imp fun h => Int.le_of_lt h)).mono ?_
 rintro _ w' ⟨rfl, q, rfl⟩
 rw [List.take_of_length_le (Nat.le_refl _)]
 have e : act.contains x = decide (x ∈ act) := by
  rw [Bool.eq_iff_iff]
  simp
 rw [e]
 exact ⟨⟨_, rfl⟩, Only.drewN w q⟩
end
section
variable {B : Nat} {w w' : World} {s : Sl} {l d : List Int}
theorem OwnI.cells (h : OwnI B w s l) {g : Nat} (ha : s.a = some ⟨g, 0, none⟩) : ∃ tail, B <= g /\ Blk w g 3 (l.map (Value.int .i64) ++ tail) /\ tail.length = s.c - s.n /\ s.n = l.length /\ s.n <= s.c /\ s.c <= 9223372036854775807 /\ ∀ x, x ∈ l -> InI x := by
 rcases h with ⟨rfl, rfl⟩ | ⟨g', css, tail, h1, h2, h4, h5, h6, h7, h9, h8⟩
 · cases ha
 · rw [h1] at ha
   injection ha with ha
   injection ha with ha
   subst ha
   have hfl : ∀ {l : List Int} {css : List (List Value)}, Els rInt 1 w (fun k => False /\ k ≠ g') l css -> css.flatten = l.map (Value.int .i64) /\ ∀ x, x ∈ l -> InI x := by
    intro l css
    induction l generalizing css with
    | nil =>
     intro h
     have := h.len
     cases css with
     | nil => exact ⟨rfl, fun x hx => by cases hx⟩
     | cons c css => cases this
    | cons a l ih =>
     intro h
     cases css with
     | nil => have := h.len; cases this
     | cons c css =>
      have hh := h
      unfold Els at hh
      obtain ⟨⟨hc1, hc2, hc3⟩, hr⟩ : (c.length = 1 /\ rInt w (fun k => False /\ k ≠ g') a c) /\ Els rInt 1 w (fun k => False /\ k ≠ g') l css := hh
      obtain ⟨e1, e2⟩ := ih hr
      refine ⟨by rw [List.flatten_cons, e1, hc2]; rfl, fun x hx => ?_⟩
      rw [List.mem_cons] at hx
      rcases hx with rfl | hx
      · exact hc3
      · exact e2 x hx
   obtain ⟨e1, e2⟩ := hfl h8
   rw [e1] at h4
   exact ⟨tail, h2, h4, by omega, h6, h7, h9, e2⟩
theorem OwnI.mk {g : Nat} {tail : List Value} (ha : s.a = some ⟨g, 0, none⟩) (hB : B <= g) (hb : Blk w g 3 (l.map (Value.int .i64) ++ tail)) (ht : tail.length = s.c - s.n) (hn : s.n = l.length) (hc : s.n <= s.c) (h63 : s.c <= 9223372036854775807) (hi : ∀ x, x ∈ l -> InI x) : OwnI B w s l := by
 refine .inr ⟨g, l.map fun x => [Value.int .i64 x], tail, ha, hB, ?_, by omega, hn, hc, h63, ?_⟩
 · have : (l.map fun x => [Value.int .i64 x]).flatten = l.map (Value.int .i64) := by
    clear hb hn hi
    induction l with
    | nil => rfl
    | cons a l ih => rw [List.map_cons, List.flatten_cons, ih]; rfl
   rw [this]
   exact hb
 · clear hb hn
   induction l with
   | nil => trivial
   | cons a l ih => exact ⟨⟨rfl, rfl, hi a (.head _)⟩, ih fun x hx => hi x (.tail _ hx)⟩
theorem OwnI.nilOr (h : OwnI B w s l) : (s = Sl.nil /\ l = []) ∨ ∃ g, s.a = some ⟨g, 0, none⟩ := by
 rcases h with h | ⟨g, css, tail, h1, _⟩
 · exact .inl h
 · exact .inr ⟨g, h1⟩
theorem OwnI.ofRow {v : Value} (h : w'.ownsRow B 3 1 v l.length (l.map (Value.int .i64))) (hi : ∀ x, x ∈ l -> InI x) : ∃ s : Sl, v = s.v /\ OwnI B w' s l := by
 rcases h.2 with ⟨rfl, hn⟩ | ⟨g, cap, cur, rfl, h1, h2, h3, h4, h5, h6⟩
 · have : l = [] := List.eq_nil_of_length_eq_zero hn
   subst this
   exact ⟨Sl.nil, rfl, Own.nil _ _ _ _ _ _⟩
 · refine ⟨⟨some ⟨g, 0, none⟩, l.length, cap⟩, rfl, OwnI.mk (tail := cur.toList.drop l.length) rfl h1 ?_ ?_ rfl h3 ?_ hi⟩
   · rw [Nat.mul_one] at h6
     rw [<- h6, List.take_append_drop]
     unfold Blk
     rw [h2]
   · dsimp only
     rw [List.length_drop, Array.length_toList, h5]
     omega
   · have : maxLen = 9223372036854775807 := rfl
     dsimp only
     omega
end
section
variable {w : World} {F G : Nat -> Prop} {l sa : Sl} {xs : List Spo} {act : List Int}
theorem sp_u {u : World} (h : SliceF rSp 5 w F l xs) (hO : Only [] w u) : SliceF rSp 5 u F l xs := SliceF.only rSp_ok (by decide) h hO (by simp)
theorem legalr_c (h : SliceF rSp 5 w F l xs) (hF : Sd xs) (ha : SliceF rInt 1 w G sa act) (hm : act.length <= 4611686018427387903) : Calls Try.prog 22 #[l.v, sa.v] w fun e w' => (∃ b : Bool, e = .returned (.bool b) /\ (b = true ↔ Lg xs act)) /\ Only [] w w' := by
 have hx := hF.le
 refine (v88w l sa (fun v w' => (∃ b : Bool, v = .bool b /\ (b = true ↔ Lg xs act)) /\ Only [] w w') w ?_).mono (by rintro _ w' ⟨v, rfl, ⟨s, rfl, h⟩, h'⟩; exact ⟨⟨s, rfl, h⟩, h'⟩)
 unfold v88v
 have hl := h.len
 have hal := ha.len
 have no : ∀ {u : World}, ¬ Lg xs act -> Only [] w u -> (∃ b : Bool, Value.bool false = .bool b /\ (b = true ↔ Lg xs act)) /\ Only [] w u := fun hn hO => ⟨⟨false, rfl, (fun h => by cases h), fun h => absurd h hn⟩, hO⟩
 refine (hasr_c ha 0 hm).mono ?_
 rintro _ u ⟨rfl, hu⟩
 obtain rfl : w = u := hu.symm
 refine ⟨_, rfl, fun hb => no (fun hL => ?_) (Only.refl _ _), fun hb => ?_⟩
 · rw [decide_eq_true hL.rt] at hb
   cases hb
 have h0 : (0 : Int) ∈ act := by
  have : decide ((0 : Int) ∈ act) = true := by simpa using hb
  exact of_decide_eq_true this
 refine ⟨fun kv i u => ∃ j : Nat, i = (j : Int) /\ kv + j = act.length /\ j <= act.length /\ (act.take j).Pairwise (· < ·) /\ (∀ x, x ∈ act.take j -> LgAt xs act x) /\ Only [] w u, act.length, ⟨0, rfl, by omega, Nat.zero_le _, by simp, by simp, Only.refl _ _⟩, ?_⟩
 rintro kv _ u ⟨j, rfl, hkv, hj, hri, hat, hO⟩
 refine ⟨fun hc => ?_, fun hc => ?_⟩
 · have hc := of_decide_eq_true hc
   have hjl : j < act.length := by omega
   have hmem : act[j] ∈ act := List.getElem_mem hjl
   have hau : SliceF rInt 1 u G sa act := kI ha hO
   obtain ⟨ad, a1, a2⟩ := int_at hau (List.getElem?_eq_getElem hjl)
   obtain ⟨ad2, x2, a3, a4, a5⟩ : ∃ (ad2 : Addr) (x2 : Int), (0 < j -> SlAt sa (IntKind.wrap .i64 ((j : Int) - 1)) 1 ad2) /\ (0 < j -> Cells u ad2 [.int .i64 x2]) /\ (0 < j -> act[j - 1]? = some x2) := by
    by_cases hj0 : 0 < j
    · obtain ⟨ad2, b1, b2⟩ := int_at hau (List.getElem?_eq_getElem (i := j - 1) (by omega))
      refine ⟨ad2, act[j - 1], fun _ => ?_, fun _ => b2, fun _ => List.getElem?_eq_getElem (by omega)⟩
      rw [wr' (by omega) (by omega)]
      have e : ((j - 1 : Nat) : Int) = (j : Int) - 1 := by omega
      rw [<- e]
      exact b1
    · exact ⟨default, 0, fun h => absurd h hj0, fun h => absurd h hj0, fun h => absurd h hj0⟩
   generalize hy : act[j] = n at *
   refine ⟨ad, a1, n, a2, ad2, fun _ hh => a3 (by simpa using hh), x2, fun _ hh => a4 (by simpa using hh), fun hb => no (fun hL => ?_) hO, fun hb => ?_⟩
   · have hA := hL.at_ n hmem
     have h1 := hA.ge
     have h2 := hA.lt
     rw [Bool.or_eq_true, Bool.or_eq_true, Bool.and_eq_true] at hb
     rcases hb with (hb | hb) | hb
     · have := of_decide_eq_true hb
       omega
     · have := of_decide_eq_true hb
       omega
     · have h3 : 0 < j := by have := of_decide_eq_true hb.1; omega
       have h4 := of_decide_eq_true hb.2
       have := List.pairwise_iff_getElem.1 hL.rise (j - 1) j (by omega) hjl (by omega)
       rw [hy] at this
       have e := a5 h3
       rw [List.getElem?_eq_getElem (by omega)] at e
       injection e with e
       omega
   · rw [Bool.or_eq_false_iff, Bool.or_eq_false_iff, Bool.and_eq_false_iff] at hb
     have hn0 := of_decide_eq_false hb.1.1
     have hn1 := of_decide_eq_false hb.1.2
     obtain ⟨m, rfl⟩ : ∃ m : Nat, n = m := ⟨n.toNat, by omega⟩
     obtain ⟨y, hym⟩ := get_at (xs := xs) (i := m) (by omega)
     have hkd := kd_at hym
     obtain ⟨ad3, b1, b2, b3, _⟩ := sp_at (sp_u h hO) hym
     refine ⟨ad3, b1, y.k, b2.part 0 fun i v hi => one_part hi rfl, (rhistory_c u y.k).mono ?_⟩
     rintro _ u' ⟨rfl, hu⟩
     obtain rfl : u = u' := hu.symm
     refine ⟨_, rfl, fun b u' => u = u' /\ (b = true ↔ (m : Int) = 0 ∨ y.pa ∈ act), ?_, fun hz => ⟨rfl, fun _ => .inl (by simpa using hz), fun _ => rfl⟩, fun hz => ⟨ad3, b1, y.pa, b3, (hasr_c hau y.pa hm).mono ?_⟩⟩
     · rintro b _ ⟨rfl, hbi⟩
       have hst : ∀ {k : Int}, 1 <= k /\ k <= 4 -> ((k == 3) || (k == 4)) = !(stK k) := fun hk => by rw [<- hist_st hk, Bool.not_not]
       rw [hst (hF.kn m y hym)]
       refine ⟨fun hbb => no (fun hL => ?_) hO, fun hbb => ?_⟩
       · have hA := hL.at_ m hmem
         have h1 := hA.st
         rw [hkd] at h1
         rw [h1] at hbb
         have hbf : b = false := by simpa using hbb
         rcases hA.up with h2 | h2
         · rw [hbi.2 (.inl h2)] at hbf
           cases hbf
         · rw [hbi.2 (.inr (h2 y (by rw [Int.toNat_natCast]; exact hym)))] at hbf
           cases hbf
       · rw [Bool.or_eq_false_iff] at hbb
         have hs1 : stK y.k = true := by simpa using hbb.1
         have hb1 : b = true := by simpa using hbb.2
         have hup := hbi.1 hb1
         refine (regionsr_c (sp_u h hO) hF m).mono ?_
         rintro _ w4 ⟨⟨s4, rfl, hS4⟩, hO4⟩
         have o4 := hO.tr0 hO4
         have hl4 := hS4.len
         have hrl := regs_len xs m
         have eo : onC xs act m = (regs xs m).countP fun r => decide (r ∈ act) := rfl
         have hek : onOk xs act m = if y.k = 2 then onC xs act m == (regs xs m).length else onC xs act m == min 1 (regs xs m).length := by unfold onOk; rw [hkd]
         have hcl : onC xs act m <= (regs xs m).length := List.countP_le_length
         generalize hrs : regs xs m = rs at *
         refine ⟨s4, rfl, fun kv on i u' => ∃ t : Nat, i = (t : Int) /\ kv + t = rs.length /\ t <= rs.length /\ on = (((rs.take t).countP fun r => decide (r ∈ act) : Nat) : Int) /\ w4 = u', rs.length, ⟨0, rfl, by omega, Nat.zero_le _, by simp, rfl⟩, ?_⟩
         rintro kv2 _ _ _ ⟨t, rfl, hkv2, ht, rfl, rfl⟩
         refine ⟨fun hc2 => ?_, fun hc2 => ?_⟩
         · have hc2 := of_decide_eq_true hc2
           have htl : t < rs.length := by omega
           obtain ⟨ad5, c1, c2⟩ := int_at hS4.sl (List.getElem?_eq_getElem htl)
           have hcn : (rs.take t).countP (fun r => decide (r ∈ act)) <= t := Nat.le_trans List.countP_le_length (by rw [List.length_take]; omega)
           have htk : (rs.take (t + 1)).countP (fun r => decide (r ∈ act)) = (rs.take t).countP (fun r => decide (r ∈ act)) + if decide (rs[t] ∈ act) = true then 1 else 0 := by
            rw [List.take_add_one, List.getElem?_eq_getElem htl, List.countP_append]
            congr 1
            show List.countP _ [rs[t]] = _
            rw [List.countP_cons, List.countP_nil, Nat.zero_add]
           refine ⟨fun i6 u' => i6 = (((rs.take (t + 1)).countP fun r => decide (r ∈ act) : Nat) : Int) /\ w4 = u', fun i6 u' ⟨h1, h2⟩ => ⟨kv2 - 1, by omega, t + 1, by rw [wr' (by omega) (by omega)]; rfl, by omega, by omega, h1, h2⟩, ad5, c1, _, c2, (hasr_c (kI ha o4) _ hm).mono ?_⟩
           rintro _ u' ⟨rfl, hu⟩
           obtain rfl : w4 = u' := hu.symm
           refine ⟨_, rfl, fun hh => ⟨?_, rfl⟩, fun hh => ⟨?_, rfl⟩⟩
           · rw [wr' (by omega) (by omega), htk, if_pos hh]
             rfl
           · rw [htk, if_neg (by rw [hh]; decide)]
             rfl
         · have hc2 := of_decide_eq_false hc2
           have : t = rs.length := by omega
           subst this
           rw [List.take_of_length_le (Nat.le_refl _), <- eo]
           obtain ⟨ad6, c1, c2, _⟩ := sp_at (sp_u h o4) hym
           have ck : Cells w4 (ad6.add 0) [.int .i64 y.k] := c2.part 0 fun i v hi => one_part hi rfl
           have hk12 : y.k = 1 ∨ y.k = 2 := by simpa [stK] using hs1
           refine ⟨ad6, c1, y.k, ck, ad6, fun _ => c1, y.k, fun _ => ck, fun hbb => no (fun hL => ?_) o4, fun hbb => ⟨kv - 1, by omega, j + 1, by rw [wr' (by omega) (by omega)]; rfl, by omega, by omega, ?_, fun x hx => ?_, o4⟩⟩
           · have hA := (hL.at_ m hmem).on
             rw [Int.toNat_natCast, hek] at hA
             rcases hk12 with e | e
             · rw [e] at hA hbb
               rw [if_neg (by decide), beq_iff_eq] at hA
               rw [hA] at hbb
               simp only [Bool.or_eq_true, Bool.and_eq_true, bne_iff_ne, beq_iff_eq] at hbb
               rcases hbb with hbb | hbb
               · exact absurd hbb.1 (by decide)
               · refine hbb.2 ?_
                 split <;> omega
             · rw [e] at hA hbb
               rw [if_pos rfl, beq_iff_eq] at hA
               rw [hA] at hbb
               simp only [Bool.or_eq_true, Bool.and_eq_true, bne_iff_ne, beq_iff_eq] at hbb
               rcases hbb with hbb | hbb
               · exact hbb.2 (by omega)
               · exact absurd hbb.1 (by decide)
           · rw [List.take_add_one, List.getElem?_eq_getElem hjl, hy, List.pairwise_append]
             refine ⟨hri, by simp, fun p hp q hq => ?_⟩
             simp only [Option.toList, List.mem_singleton] at hq
             subst hq
             rcases hb.2 with e | e
             · have : j = 0 := by have := of_decide_eq_false e; omega
               subst this
               simp at hp
             · have e := of_decide_eq_false e
               by_cases hj0 : 0 < j
               · have e5 := a5 hj0
                 obtain ⟨i, hi, rfl⟩ := List.getElem_of_mem hp
                 rw [List.length_take] at hi
                 have hle : ((act.take j)[i]'(by rw [List.length_take]; exact hi)) <= x2 := by
                  rw [List.getElem_take]
                  rw [List.getElem?_eq_getElem (by omega)] at e5
                  injection e5 with e5
                  by_cases hij : i = j - 1
                  · subst hij
                    omega
                  · have := List.pairwise_iff_getElem.1 hri i (j - 1) (by rw [List.length_take]; omega) (by rw [List.length_take]; omega) (by omega)
                    rw [List.getElem_take, List.getElem_take] at this
                    omega
                 omega
               · have : j = 0 := by omega
                 subst this
                 simp at hp
           · rw [List.take_add_one, List.getElem?_eq_getElem hjl, hy, List.mem_append] at hx
             rcases hx with hx | hx
             · exact hat x hx
             · simp only [Option.toList, List.mem_singleton] at hx
               subst hx
               refine ⟨by omega, by omega, by rw [hkd]; exact hs1, ?_, ?_⟩
               · rcases hup with e | e
                 · exact .inl e
                 · exact .inr fun s hs => by
                    rw [Int.toNat_natCast, hym] at hs
                    injection hs with hs
                    rw [<- hs]
                    exact e
               · rw [Int.toNat_natCast, hek]
                 simp only [Bool.or_eq_false_iff, Bool.and_eq_false_iff, bne_eq_false_iff_eq, beq_eq_false_iff_ne] at hbb
                 rcases hk12 with e | e
                 · rw [e, if_neg (by decide), beq_iff_eq]
                   rcases hbb.2 with e2 | e2
                   · exact absurd e e2
                   · split at e2 <;> omega
                 · rw [e, if_pos rfl, beq_iff_eq]
                   rcases hbb.1 with e2 | e2
                   · exact absurd e e2
                   · omega
     · rintro _ u' ⟨rfl, hu⟩
       obtain rfl : u = u' := hu.symm
       refine ⟨_, rfl, rfl, fun hh => .inr (of_decide_eq_true hh), fun hh => ?_⟩
       rcases hh with hh | hh
       · rw [hh] at hz
         cases hz
       · exact decide_eq_true hh
 · have hc := of_decide_eq_false hc
   rw [List.take_of_length_le (by omega)] at hri hat
   exact ⟨⟨true, rfl, fun _ => ⟨h0, hri, hat⟩, fun _ => rfl⟩, hO⟩
end
end Go.Proofs.Ytddfmhccaapgjaa.Con
namespace Go.Proofs.Ytddfmhccaapgjaa.Con
open Go Go.RowKit Go.Kt Go.Kt.V Go.Proofs.Ytddfmhccaapgjaa.Vc
set_option linter.unusedSimpArgs false
set_option linter.unusedVariables false
set_option maxHeartbeats 1600000
set_option maxRecDepth 100000
theorem mkI (w : World) {n : Nat} (hn : n <= 1000000) : ∃ (s : Sl) (w' : World), (Instr.makeSlice 30 (.int .i64 (n : Int)) (.int .i64 (n : Int))).run Try.prog w = .ok s.v w' /\ OwnI w.heap.size w' s (List.replicate n 0) /\ Only [] w w' := by
 obtain ⟨w', h1, h2, h3⟩ := run_makeSlice_full (P := Try.prog) (w := w) w.heap.size 30 3 Try.t3 (.int .i64 0) 1 (by kernel_rfl) (by kernel_rfl) rfl rfl .i64 .i64 n (by omega) (by show 8 * n <= _; omega) (by show n <= 9223372036854775807; omega) (Nat.le_refl _)
 have e : (madeCells (Value.int .i64 0).cells (n * 1)).toList = (List.replicate n (0 : Int)).map (Value.int .i64) := by
  rw [Nat.mul_one, List.map_replicate]
  exact toList_madeCells_one _ _
 rw [e] at h2
 have h2' : w'.ownsRow w.heap.size 3 1 (.slice (some ⟨w.heap.size, 0, none⟩) n n) (List.replicate n (0 : Int)).length ((List.replicate n (0 : Int)).map (Value.int .i64)) := by rw [List.length_replicate]; exact h2
 obtain ⟨s, hs1, hs2⟩ := OwnI.ofRow h2' fun x hx => by rw [(List.mem_replicate.1 hx).2]; exact ⟨by decide, by decide⟩
 exact ⟨s, w', by rw [<- hs1]; exact h1, hs2, by have := Only.of_grown h3; simpa using this⟩
def wsL (xs : List Spo) : List Int := (List.range xs.length).map fun n : Nat => (W xs (n : Int) : Int)
theorem wsL_at {xs : List Spo} {n : Nat} (h : n < xs.length) : (wsL xs)[n]? = some (W xs n : Int) := by
 unfold wsL
 rw [List.getElem?_map, List.getElem?_range h]
 rfl
section
variable {w : World} {F G : Nat -> Prop} {l ws sa : Sl} {xs : List Spo} {vals act : List Int} {k0 n : Nat} {x : Spo}
theorem count_c (hB : Blk w k0 53 [l.v, ws.v]) (h : SliceF rSp 5 w F l xs) (hF : Sd xs) (hws : SliceF rInt 1 w G ws vals) (hv : ∀ q : Nat, (q : Int) ∈ regs xs n -> vals[q]? = some (W xs q : Int)) (hx : xs[n]? = some x) :
  Calls Try.prog 34 #[.pointer (some ⟨k0, 0, none⟩), .int .i64 (n : Int)] w fun e w' => e = .returned (.int .i64 (W xs n : Int)) /\ Only [] w w' := by
 refine ret (v8w ⟨k0, 0, none⟩ n (fun v w' => v = .int .i64 (W xs n : Int) /\ Only [] w w') w ?_)
 unfold v8v
 have hle := hF.le
 refine ⟨l, Blk.at1 hB 0 rfl, (regions_c h hF hx).mono ?_⟩
 rintro _ w0 ⟨⟨s1, rfl, hS1⟩, hO1⟩
 have hl1 := hS1.len
 have hrl := regs_len xs n
 have hweq := hF.W_eq n
 have hsum := hF.W_sum hx
 have hrr : ∀ {r : Int}, r ∈ regs xs n -> _ := fun {r} h => hF.reg (n := n) (r := r) h
 have hpos : ∀ r, r ∈ regs xs n -> 0 < W xs r := fun r hr => hF.W_reg hr
 rw [kd_at hx] at hweq
 have hst : ∀ t, sumW (W xs) ((regs xs n).take t) <= sumW (W xs) (regs xs n) := fun t => sumW_take _ _ t
 have hpt : ∀ t, proW (W xs) ((regs xs n).take t) <= proW (W xs) (regs xs n) := fun t => proW_take t hpos
 generalize regs xs n = rs at *
 refine ⟨s1, rfl, fun hc => ⟨?_, hO1⟩, fun hc => ?_⟩
 · have hc : (s1.n : Int) = 0 := by simpa using hc
   rw [hweq, if_pos (by omega)]
   rfl
 · have hc : (s1.n : Int) ≠ 0 := by simpa using hc
   rw [if_neg (by omega)] at hweq
   refine ⟨fun kv su pr i u => ∃ t : Nat, i = (t : Int) /\ kv + t = rs.length /\ t <= rs.length /\ su = (sumW (W xs) (rs.take t) : Int) /\ pr = (proW (W xs) (rs.take t) : Int) /\ Only [] w0 u, rs.length, ⟨0, rfl, by omega, Nat.zero_le _, by simp [sumW], by simp [proW], Only.refl _ _⟩, ?_⟩
   rintro kv _ _ _ u ⟨t, rfl, hkv, ht, rfl, rfl, hO⟩
   have o := hO1.tr0 hO
   have hBu := o.blk hB (by simp)
   refine ⟨fun hc1 => ?_, fun hc1 => ?_⟩
   · have hc1 := of_decide_eq_true hc1
     have htl : t < rs.length := by omega
     obtain ⟨ad, a1, a2⟩ := int_at (wp_int hS1 hO).sl (List.getElem?_eq_getElem htl)
     have hmem := List.getElem_mem htl
     obtain ⟨q, y, hq, hy, _⟩ := hrr hmem
     have hvq := hv q (by rw [<- hq]; exact hmem)
     obtain ⟨ad2, b1, b2⟩ := int_at (kI hws o) hvq
     have c1 : Cells u (Addr.add ⟨k0, 0, none⟩ 1) [ws.v] := Blk.at1 hBu 1 rfl
     have htk : rs.take (t + 1) = rs.take t ++ [rs[t]] := by rw [List.take_add_one, List.getElem?_eq_getElem htl]; rfl
     have h1 := hst (t + 1)
     have h2 := hpt (t + 1)
     rw [htk, sumW_snoc, hq] at h1
     rw [htk, proW_snoc, hq] at h2
     refine ⟨ad, a1, _, a2, ws, c1, ad2, by rw [hq]; exact b1, _, b2, ws, c1, ad2, by rw [hq]; exact b1, _, b2, fun w2 hO2 => ⟨kv - 1, by omega, t + 1, by rw [wr' (by omega) (by omega)]; rfl, by omega, by omega, ?_, ?_, hO.tr0 hO2⟩⟩
     · rw [htk, sumW_snoc, hq, wr' (by omega) (by omega)]
       omega
     · have e : (proW (W xs) (rs.take t) : Int) * (W xs (q : Int) : Int) = ((proW (W xs) (rs.take t) * W xs (q : Int) : Nat) : Int) := by rw [Int.natCast_mul]
       rw [htk, proW_snoc, hq, e, wr' (by omega) (by omega)]
   · have hc1 := of_decide_eq_false hc1
     have : t = rs.length := by omega
     subst this
     obtain ⟨ad, a1, a2, _⟩ := sp_at (sp_u h o) hx
     rw [List.take_of_length_le (Nat.le_refl _)]
     refine ⟨l, Blk.at1 hBu 0 rfl, ad, a1, x.k, a2.part 0 fun i v hi => one_part hi rfl, fun hk => ⟨?_, o⟩, fun hk => ⟨?_, o⟩⟩
     · rw [hweq, if_pos (by simpa using hk)]
     · rw [hweq, if_neg (by simpa using hk)]
structure CtB (w : World) (k0 : Nat) (l ws : Sl) (xs : List Spo) (F G : Nat -> Prop) : Prop where
 blk : Blk w k0 53 [l.v, ws.v]
 sp : SliceF rSp 5 w F l xs
 ws : SliceF rInt 1 w G ws (wsL xs)
theorem CtB.only {u : World} (h : CtB w k0 l ws xs F G) (hO : Only [] w u) : CtB u k0 l ws xs F G := ⟨hO.blk h.blk (by simp), sp_u h.sp hO, kI h.ws hO⟩
theorem CtB.mono {F' G' : Nat -> Prop} (h : CtB w k0 l ws xs F G) (hF : ∀ k, F k -> F' k) (hG : ∀ k, G k -> G' k) : CtB w k0 l ws xs F' G' := ⟨h.blk, SliceF.mono rSp_ok h.sp hF, SliceF.mono rInt_ok h.ws hG⟩
theorem counted_c (h : SliceF rSp 5 w F l xs) (hF : Sd xs) : Calls Try.prog 18 #[l.v] w fun e w' => (∃ (k0 : Nat) (ws : Sl), e = .returned (.pointer (some ⟨k0, 0, none⟩)) /\ w.heap.size <= k0 /\ k0 < w'.heap.size /\ CtB w' k0 l ws xs (fun k => F k /\ k < w.heap.size) (fun k => w.heap.size <= k)) /\ Only [] w w' := by
 refine (v7w l (fun v w' => (∃ (k0 : Nat) (ws : Sl), v = .pointer (some ⟨k0, 0, none⟩) /\ w.heap.size <= k0 /\ k0 < w'.heap.size /\ CtB w' k0 l ws xs (fun k => F k /\ k < w.heap.size) (fun k => w.heap.size <= k)) /\ Only [] w w') w ?_).mono (by rintro _ w' ⟨v, rfl, ⟨s, t, rfl, h⟩, h'⟩; exact ⟨⟨s, t, rfl, h⟩, h'⟩)
 unfold v7v
 have hle := hF.le
 have hl := h.len
 obtain ⟨ws, w0, m1, m2, m3⟩ := mkI w (n := l.n) (by omega)
 have z0 := m3.size
 refine ⟨ws, w0, m1, fun k0 w1 hk0 hk0' hO1 => ?_⟩
 have o1 := m3.tr0 hO1
 have z1 := hO1.size
 have h1 : SliceF rSp 5 w1 (fun k => F k /\ k < w.heap.size) l xs := sp_u (SliceF.inHeap rSp_ok h (by decide)) o1
 have hpos := hF.fo.ne
 have hwa : ∀ {g : Nat}, ws.a = some ⟨g, 0, none⟩ -> w.heap.size <= g /\ g < w0.heap.size := fun e => m2.blk e
 refine ⟨fun kv i l1 l2 u => ∃ (m : Nat) (vals : List Int), i = (m : Int) - 1 /\ kv = m /\ m <= xs.length /\ l = l1 /\ ws = l2 /\ OwnI w.heap.size u ws vals /\ vals.length = xs.length /\ (∀ q : Nat, m <= q -> q < xs.length -> vals[q]? = some (W xs q : Int)) /\ SliceF rSp 5 u (fun k => F k /\ k < w.heap.size) l xs /\ Only [] w u /\ w1.heap.size <= u.heap.size, xs.length, ⟨xs.length, List.replicate l.n 0, by rw [wr' (by omega) (by omega)]; omega, rfl, Nat.le_refl _, rfl, rfl, wp_int m2 hO1, by rw [List.length_replicate]; exact hl, fun q h1 h2 => by omega, h1, o1, Nat.le_refl _⟩, ?_⟩
 rintro kv _ _ _ u ⟨m, vals, rfl, hkv, hm, rfl, rfl, hS, hvl, hvs, hsp, hO, hz⟩
 refine ⟨fun hc w3 hO3 => ?_, fun hc hB => ⟨⟨k0, ws, rfl, by omega, by omega, hB, hsp, ?_⟩, hO⟩⟩
 · have hc := of_decide_eq_true hc
   obtain ⟨m, rfl⟩ : ∃ m', m = m' + 1 := ⟨m - 1, by omega⟩
   have em : ((m + 1 : Nat) : Int) - 1 = (m : Int) := by omega
   rw [em]
   obtain ⟨x, hx⟩ := get_at (xs := xs) (i := m) (by omega)
   have hS3 := wp_int hS hO3
   refine ⟨fun k => k = k0, rfl, fun hB => (count_c hB (sp_u hsp hO3) hF hS3.sl (fun q hq => ?_) hx).mono ?_⟩
   · obtain ⟨q', t, e, h2, _, _, h5, _⟩ := hF.reg hq
     have : q' = q := by omega
     subst this
     exact hvs q' (by omega) (get_lt h2)
   rintro _ w4 ⟨rfl, hO4⟩
   have z3 := hO3.size
   have z4 := hO4.size
   have hS4 := wp_int hS3 hO4
   have hwle := hF.W_le hx
   obtain ⟨g, cells, p1, p2, p3, p4, p5⟩ := Own.store (x := (W xs m : Int)) (n := m) (vs := [.int .i64 (W xs m : Int)]) (G := fun _ => False) rInt_ok hS4 (by omega) rfl ⟨rfl, by omega, by omega⟩ (fun k hk _ => hk.elim) (by decide)
   have hgw := hwa p1
   refine ⟨_, rfl, l, ws, hO4.blk hB (by simp), Keeps.only hO4, _, p2, g, m * 1, cells, _, rfl, p3, p4, by omega, fun w5 hO5 hB5 => ⟨m, by omega, m, vals.set m (W xs m : Int), by rw [wr' (by omega) (by omega)], rfl, by omega, rfl, rfl, p5 w5 hO5 hB5, by rw [List.length_set]; exact hvl, fun q h1 h2 => ?_, SliceF.only rSp_ok (by decide) (sp_u (sp_u hsp hO3) hO4) hO5 fun k hk _ hm' => by simp only [List.mem_singleton] at hm'; omega, ?_, ?_⟩⟩
   · by_cases hqm : q = m
     · subst hqm
       rw [List.getElem?_set_self (by omega)]
     · rw [List.getElem?_set_ne (fun e => hqm e.symm)]
       exact hvs q (by omega) h2
   · exact (((hO.tr0 hO3).tr0 hO4).trP (hO5.p (F := fun k => w.heap.size <= k) fun k hk => by simp only [List.mem_singleton] at hk; exact .inl (by omega))).only fun k hk => hk
   · have := hO5.size
     omega
 · have hc := of_decide_eq_false hc
   have hm0 : m = 0 := by omega
   subst hm0
   have e : vals = wsL xs := List.ext_getElem? fun q => by
    by_cases hq : q < xs.length
    · rw [hvs q (Nat.zero_le _) hq, wsL_at hq]
    · rw [List.getElem?_eq_none (by omega), List.getElem?_eq_none (by unfold wsL; rw [List.length_map, List.length_range]; omega)]
   rw [e] at hS
   exact hS.sl
theorem Count_c (h : SliceF rSp 5 w F l xs) (hF : Sd xs) : Calls Try.prog 12 #[l.v] w fun e w' => e = .returned (.int .i64 (W xs 0 : Int)) /\ Only [] w w' := by
 refine ret (v2w l (fun v w' => v = .int .i64 (W xs 0 : Int) /\ Only [] w w') w ?_)
 unfold v2v
 have hl := h.len
 have hpos := hF.fo.ne
 refine ⟨fun hc => absurd (show (l.n : Int) = 0 by simpa using hc) (by omega), fun _ => (counted_c h hF).mono ?_⟩
 rintro _ w1 ⟨⟨k0, ws, rfl, _, _, hC⟩, hO⟩
 obtain ⟨ad, a1, a2⟩ := int_at hC.ws (wsL_at hpos)
 exact ⟨_, rfl, ⟨k0, 0, none⟩, rfl, ws, Blk.at1 hC.blk 1 rfl, ad, a1, _, a2, rfl, hO⟩
end
theorem digs_len (V : Int -> Nat) : ∀ (l : List Int) (k : Nat), (digs V l k).1.length = l.length
 | [], k => rfl
 | r :: l, k => by rw [digs, List.length_cons, List.length_cons, digs_len V l k]
theorem digs_le (V : Int -> Nat) : ∀ (l : List Int) (k : Nat), (digs V l k).2 <= k
 | [], k => Nat.le_refl _
 | r :: l, k => by rw [digs]; exact Nat.le_trans (Nat.div_le_self _ _) (digs_le V l k)
theorem digs_lt {V : Int -> Nat} : ∀ {l : List Int} {k j : Nat} {r : Int} {d : Nat}, (∀ r, r ∈ l -> 0 < V r) -> l[j]? = some r -> (digs V l k).1[j]? = some d -> d < V r
 | [], _, _, _, _, _, h, _ => by cases h
 | x :: l, k, 0, r, d, hp, h, g => by
  rw [digs] at g
  rw [List.getElem?_cons_zero, Option.some.injEq] at h g
  subst h g
  exact Nat.mod_lt _ (hp _ (.head _))
 | x :: l, k, j + 1, r, d, hp, h, g => by
  rw [digs] at g
  rw [List.getElem?_cons_succ] at h g
  exact digs_lt (fun r hr => hp r (.tail _ hr)) h g
theorem addG (w0 : World) {u : World} {s : Sl} {is : List Int} (h : OwnI w0.heap.size u s is) (hO : Only [] w0 u) (n : Int) (hn : InI n) (hm : is.length <= 2000000) :
  ∃ y w1, (Instr.buildSlice 30 1 #[.mk 0 (.int .i64 n)]).run Try.prog u = .ok (Sl.v y) w1 /\ ∃ s' w2, (Builtin.append_ #[30, 30] 30 #[Sl.v s, Sl.v y]).run Try.prog w1 = .ok (Sl.v s') w2 /\ OwnI w0.heap.size w2 s' (is ++ [n]) /\ Only [] w0 w2 /\ Gr s u s' w2 := by
 obtain ⟨y, w1, k1, k3, s', w2, g1, g2, ⟨gs, g3, g4⟩, g5⟩ := app_one (P := Try.prog) (t := 30) (ty := 30) (e := 3) (i := Try.t3) (bytes := 8) (size := 1) (r := rInt) (G := fun _ => False) (v := .int .i64 n) (x := n) (by kernel_rfl) (by kernel_rfl) rfl rfl rfl rfl (by decide) (by decide) (by decide) rInt_ok h hO.size rfl ⟨rfl, hn⟩ (fun _ h => h.elim) (by omega)
 refine ⟨y, w1, k1, s', w2, g1, OwnI.of g2, ((hO.tr0 k3).trP (g3.p (F := fun k => w0.heap.size <= k) fun g hg => .inl (g4 g hg).2.1)).only fun k hk => hk, k3.trP (g3.p fun g hg => .inl (g4 g hg).1), fun k hk => ?_⟩
 rcases g5 with e | ⟨g, e, h⟩
 · exact .inl (by rw [<- e]; exact hk)
 · rw [e] at hk
   injection hk with hk
   injection hk with hk
   exact .inr (by omega)
theorem Gr.ge {s s' : Sl} {w w' : World} {B : Nat} (h : Gr s w s' w') (hs : ∀ k, s.a = some ⟨k, 0, none⟩ -> B <= k) : OnlyP (fun k => B <= k) w w' := h.1.mono fun k _ hk => hs k hk
section
variable {w0 : World} {F G : Nat -> Prop} {l ws : Sl} {xs : List Spo} {k0 : Nat}
theorem CtB.onlyP {w u : World} {S : Nat -> Prop} (h : CtB w k0 l ws xs F G) (hO : OnlyP S w u) (h0 : ¬ S k0) (hF : ∀ k, F k -> ¬ S k) (hG : ∀ k, G k -> ¬ S k) : CtB u k0 l ws xs F G :=
 ⟨hO.blk h.blk h0, SliceF.onlyP rSp_ok (by decide) h.sp hO fun k hk _ => hF k hk, SliceF.onlyP rInt_ok (by decide) h.ws hO fun k hk _ => hG k hk⟩
theorem cput_c (hF : Sd xs) (hC : CtB w0 k0 l ws xs F G) (hFw : ∀ k, F k -> k < w0.heap.size) (hGw : ∀ k, G k -> k < w0.heap.size) : ∀ (f n k : Nat) {w : World} {x : Spo} {out : Sl} {L : List Int}, xs[n]? = some x -> xs.length <= n + f -> k < W xs n -> OwnI w0.heap.size w out L -> Only [] w0 w -> L.length + (nthW xs f n k).length <= 1000000 ->
  Calls Try.prog 19 #[.pointer (some ⟨k0, 0, none⟩), out.v, .int .i64 (n : Int), .int .i64 (k : Int)] w fun e w' => ∃ s : Sl, e = .returned s.v /\ OwnI w0.heap.size w' s (L ++ nthW xs f n k) /\ Gr out w s w'
 | 0, n, k, w, x, out, L, hx, hf, _, _, _, _ => by
  have := get_lt hx
  omega
 | f + 1, n, k, w, x, out, L, hx, hf, hk, hL, hO, hm => by
  have hle := hF.le
  have hnl := get_lt hx
  refine (v9w ⟨k0, 0, none⟩ out n k (fun v w' => ∃ s : Sl, v = s.v /\ OwnI w0.heap.size w' s (L ++ nthW xs (f + 1) n k) /\ Gr out w s w') w ?_).mono (by rintro _ w' ⟨v, rfl, s, rfl, h⟩; exact ⟨s, rfl, h⟩)
  unfold v9v
  have hwle := hF.W_le hx
  have e0 : nthW xs (f + 1) n k = (n : Int) :: if kd xs n = 1 then (match pick (W xs) (regs xs n) k with
   | some (r, k') => nthW xs f r.toNat k'
   | none => []) else ((regs xs n).zip (digs (W xs) (regs xs n) k).1).flatMap fun p => nthW xs f p.1.toNat p.2 := rfl
  rw [e0, kd_at hx] at hm ⊢
  have hk0w := hC.blk.lt
  obtain ⟨y1, w1, k1, s1, w2, g1, g2, g3, g4⟩ := addG w0 hL hO n ⟨by omega, by omega⟩ (by omega)
  have hC2 := hC.only g3
  refine ⟨y1, w1, k1, s1, w2, g1, l, Blk.at1 hC2.blk 0 rfl, (regions_c hC2.sp hF hx).mono ?_⟩
  rintro _ w3 ⟨⟨s3, rfl, hS3⟩, hO3⟩
  have o3 := g3.tr0 hO3
  have hC3 := hC.only o3
  have hO1 : OwnI w0.heap.size w3 s1 (L ++ [(n : Int)]) := wp_int g2 hO3
  have hs1 : ∀ {g : Nat}, s1.a = some ⟨g, 0, none⟩ -> w0.heap.size <= g /\ g < w2.heap.size := fun e => g2.blk e
  have hs3 : ∀ {g : Nat}, s3.a = some ⟨g, 0, none⟩ -> w2.heap.size <= g /\ g < w3.heap.size := fun e => hS3.blk e
  have g4' : Gr out w s1 w3 := g4.trans (Gr.only hO3)
  obtain ⟨ad, a1, a2, _⟩ := sp_at hC3.sp hx
  have hl3 := hS3.len
  have hrl := regs_len xs n
  have hrr : ∀ {r : Int}, r ∈ regs xs n -> _ := fun {r} h => hF.reg (n := n) (r := r) h
  have hpos : ∀ r, r ∈ regs xs n -> 0 < W xs r := fun r hr => hF.W_reg hr
  have hrle : ∀ r, r ∈ regs xs n -> W xs r <= 4611686018427387904 := fun r hr => by
   obtain ⟨q, t, rfl, h2, _⟩ := hrr hr
   exact hF.W_le h2
  generalize regs xs n = rs at *
  have rat : ∀ {u : World} {t : Nat} {r : Int}, rs[t]? = some r -> OnlyP (fun k => s1.a = some ⟨k, 0, none⟩) w3 u -> ∃ (q : Nat) (y : Spo) (ad ad2 : Addr), r = q /\ xs[q]? = some y /\ n < q /\ SlAt s3 (t : Int) 1 ad /\ Cells u ad [.int .i64 r] /\ Cells u (Addr.add ⟨k0, 0, none⟩ 1) [ws.v] /\ SlAt ws r 1 ad2 /\ Cells u ad2 [.int .i64 (W xs r : Int)] := fun {u t r} ht hu => by
   obtain ⟨q, y, rfl, hy, _, _, hnq, _⟩ := hrr (List.mem_of_getElem? ht)
   have hSu : OwnI w2.heap.size u s3 rs := hS3.keep rInt_ok fun k hk hlt => hu.block k hlt fun hh => by
    have h1 := hs1 hh
    rcases hk with hk | hk
    · exact hk.elim
    · omega
   obtain ⟨ad, b1, b2⟩ := int_at hSu.sl ht
   have hCu := hC3.onlyP hu (fun hh => by have := hs1 hh; omega) (fun k hk hh => by have := hs1 hh; have := hFw k hk; omega) (fun k hk hh => by have := hs1 hh; have := hGw k hk; omega)
   obtain ⟨ad2, c1, c2⟩ := int_at hCu.ws (wsL_at (get_lt hy))
   exact ⟨q, y, ad, ad2, rfl, hy, hnq, b1, b2, Blk.at1 hCu.blk 1 rfl, c1, c2⟩
  refine ⟨s3, rfl, l, Blk.at1 hC3.blk 0 rfl, ad, a1, x.k, a2.part 0 fun i v hi => one_part hi rfl, fun hk1 => ?_, fun hk1 => ?_⟩
  · have hk1 : x.k = 1 := by simpa using hk1
    rw [if_pos hk1] at hm ⊢
    refine ⟨fun kv i1 i u => ∃ t k' : Nat, i = (t : Int) /\ i1 = (k' : Int) /\ kv + t = rs.length /\ t <= rs.length /\ k' <= k /\ pick (W xs) rs k = pick (W xs) (rs.drop t) k' /\ w3 = u, rs.length, ⟨0, k, rfl, rfl, by omega, Nat.zero_le _, Nat.le_refl _, by rw [List.drop_zero], rfl⟩, ?_⟩
    rintro kv _ _ _ ⟨t, k', rfl, rfl, hkv, ht, hkk, hpk, rfl⟩
    refine ⟨fun hc => ?_, fun hc => ?_⟩
    · have hc := of_decide_eq_true hc
      have htl : t < rs.length := by omega
      have htr := List.getElem?_eq_getElem htl
      obtain ⟨q, y, ad, ad2, hq, hy, hnq, b1, b2, b3, b4, b5⟩ := rat htr (OnlyP.refl _ _)
      have hpd : pick (W xs) (rs.drop t) k' = if k' < W xs rs[t] then some (rs[t], k') else pick (W xs) (rs.drop (t + 1)) (k' - W xs rs[t]) := by
       rw [List.drop_eq_getElem_cons htl, pick]
      have hle2 := hrle _ (List.getElem_mem htl)
      rw [hpd] at hpk
      refine ⟨ad, b1, _, b2, ws, b3, ad2, b4, _, b5, fun hlt => ?_, fun hlt => ⟨ws, b3, ad2, b4, _, b5, kv - 1, by omega, t + 1, k' - W xs rs[t], by rw [wr' (by omega) (by omega)]; rfl, ?_, by omega, by omega, by omega, ?_, rfl⟩⟩
      · have hlt := of_decide_eq_true hlt
        have hlt' : k' < W xs rs[t] := by omega
        rw [if_pos hlt'] at hpk
        rw [hpk] at hm ⊢
        dsimp only at hm ⊢
        rw [hq, Int.toNat_natCast] at hm ⊢
        rw [hq] at hlt'
        rw [List.length_cons] at hm
        refine (cput_c hF hC hFw hGw f q k' hy (by omega) hlt' hO1 o3 (by rw [List.length_append, List.length_singleton]; omega)).mono ?_
        rintro _ w4 ⟨s4, rfl, h4, o4⟩
        exact ⟨s4, rfl, s4, rfl, by rw [List.append_assoc] at h4; exact h4, g4'.trans o4⟩
      · have hlt := of_decide_eq_false hlt
        rw [wr' (by omega) (by omega)]
        omega
      · have hlt := of_decide_eq_false hlt
        rw [if_neg (by omega)] at hpk
        exact hpk
    · have hc := of_decide_eq_false hc
      rw [List.drop_eq_nil_of_le (by omega), pick] at hpk
      rw [hpk]
      exact ⟨s1, rfl, hO1, g4'⟩
  · have hk1 : x.k ≠ 1 := by simpa using hk1
    rw [if_neg hk1] at hm ⊢
    obtain ⟨es, w5, m1, m2, m3⟩ := mkI w3 (n := s3.n) (by omega)
    have o5 := o3.tr0 m3
    have z5 := m3.size
    have hea : ∀ {g : Nat}, es.a = some ⟨g, 0, none⟩ -> w3.heap.size <= g /\ g < w5.heap.size := fun e => m2.blk e
    refine ⟨es, w5, m1, fun kv i6 i u => ∃ (m k' : Nat) (ds : List Int), i = (m : Int) - 1 /\ i6 = (k' : Int) /\ kv = m /\ m <= rs.length /\ k' = (digs (W xs) (rs.drop m) k).2 /\ OwnI w3.heap.size u es ds /\ ds.length = rs.length /\ ds.drop m = (digs (W xs) (rs.drop m) k).1.map (fun d : Nat => (d : Int)) /\ Only [] w3 u /\ w5.heap.size <= u.heap.size, rs.length, ⟨rs.length, k, List.replicate s3.n 0, by rw [wr' (by omega) (by omega)]; omega, rfl, rfl, Nat.le_refl _, by rw [List.drop_length]; rfl, m2, by rw [List.length_replicate]; exact hl3, by rw [List.drop_length, List.drop_eq_nil_of_le (by rw [List.length_replicate]; omega)]; rfl, m3, Nat.le_refl _⟩, ?_⟩
    rintro kv _ _ u ⟨m, k', ds, rfl, rfl, hkv, hml, hk', hD, hdl, hdd, hOu, hz⟩
    refine ⟨fun hc w7 hO7 => ?_, fun hc => ?_⟩
    · have hc := of_decide_eq_true hc
      obtain ⟨m, rfl⟩ : ∃ m', m = m' + 1 := ⟨m - 1, by omega⟩
      have em : ((m + 1 : Nat) : Int) - 1 = (m : Int) := by omega
      rw [em]
      have htr := List.getElem?_eq_getElem (show m < rs.length by omega)
      have o7 := hOu.tr0 hO7
      obtain ⟨q, y, ad, ad2, hq, hy, hnq, b1, b2, b3, b4, b5⟩ := rat htr o7.p0
      have hD7 := wp_int hD hO7
      have z7 := hO7.size
      have hwp := hpos _ (List.getElem_mem (show m < rs.length by omega))
      have hk'le : k' <= k := by rw [hk']; exact digs_le _ _ _
      have hdg : digs (W xs) (rs.drop m) k = (k' % W xs rs[m] :: (digs (W xs) (rs.drop (m + 1)) k).1, k' / W xs rs[m]) := by
       rw [List.drop_eq_getElem_cons (show m < rs.length by omega), digs, <- hk']
      have hmod : (k' : Int).tmod (W xs rs[m] : Int) = ((k' % W xs rs[m] : Nat) : Int) := rfl
      have hdiv : (k' : Int).tdiv (W xs rs[m] : Int) = ((k' / W xs rs[m] : Nat) : Int) := rfl
      have hml2 : k' % W xs rs[m] <= k' := Nat.mod_le _ _
      have hdl2 : k' / W xs rs[m] <= k' := Nat.div_le_self _ _
      obtain ⟨g, cells, p1, p2, p3, p4, p5⟩ := Own.store (x := ((k' % W xs rs[m] : Nat) : Int)) (n := m) (vs := [.int .i64 ((k' % W xs rs[m] : Nat) : Int)]) (G := fun _ => False) rInt_ok hD7 (by omega) rfl ⟨rfl, by omega, by omega⟩ (fun k hk _ => hk.elim) (by decide)
      have hgw := hea p1
      refine ⟨ws, b3, ad, b1, _, b2, ad2, b4, _, b5, by omega, _, p2, g, m * 1, cells, _, rfl, p3, p4, fun w8 hO8 hB8 => ?_⟩
      rw [hmod] at hB8
      have o8 : Only [] w3 w8 := (o7.trP (hO8.p (F := fun k => w3.heap.size <= k) fun k hk => by simp only [List.mem_singleton] at hk; exact .inl (by omega))).only fun k hk => hk
      have z8 := hO8.size
      obtain ⟨q', y', ad', ad2', _, _, _, c1, c2, c3, c4, c5⟩ := rat htr o8.p0
      refine ⟨ws, c3, ad', c1, _, c2, ad2', c4, _, c5, by omega, fun w9 hO9 => ?_⟩
      have z9 := hO9.size
      rw [hdiv]
      refine ⟨m, by omega, m, _, ds.set m ((k' % W xs rs[m] : Nat) : Int), by rw [wr' (by omega) (by omega)], by rw [wr' (Int.le_trans (by decide) (Int.natCast_nonneg _)) (Int.le_trans (Int.ofNat_le.2 hdl2) (by omega))], rfl, by omega, by rw [hdg], wp_int (p5 w8 hO8 hB8) hO9, by rw [List.length_set]; exact hdl, ?_, o8.tr0 hO9, by omega⟩
      rw [hdg, List.map_cons, <- hdd, List.drop_eq_getElem_cons (show m < (ds.set m ((k' % W xs rs[m] : Nat) : Int)).length by rw [List.length_set]; omega), List.getElem_set_self, List.drop_set_of_lt (by omega)]
    · have hc := of_decide_eq_false hc
      have hm0 : m = 0 := by omega
      subst hm0
      rw [List.drop_zero, List.drop_zero] at hdd
      have hdgl := digs_len (W xs) rs k
      let dg := (digs (W xs) rs k).1
      have hdg : dg = (digs (W xs) rs k).1 := rfl
      rw [<- hdg] at hm hdd hdgl ⊢
      have ou := o3.tr0 hOu
      have hDv : ∀ {v : World} {q : Sl}, Gr s1 u q v -> OwnI w3.heap.size v es ds := fun {v q} hg => hD.keep rInt_ok fun k hk hlt => hg.1.block k hlt fun hh => by
       have h1 := hs1 hh
       have z3 := hO3.size
       rcases hk with hk | hk
       · exact hk.elim
       · omega
      have hO1u : OwnI w0.heap.size u s1 (L ++ [(n : Int)]) := wp_int hO1 hOu
      let Z : Nat -> List Int := fun t => ((rs.zip dg).take t).flatMap fun p => nthW xs f p.1.toNat p.2
      have hZ : ∀ t r d, rs[t]? = some r -> dg[t]? = some d -> Z (t + 1) = Z t ++ nthW xs f r.toNat d := fun t r d h1 h2 => by
       show ((rs.zip dg).take (t + 1)).flatMap _ = _
       rw [List.take_add_one, List.flatMap_append]
       congr 1
       have : (rs.zip dg)[t]? = some (r, d) := List.getElem?_zip_eq_some.2 ⟨h1, h2⟩
       rw [this]
       simp
      have hZle : ∀ t, (Z t).length <= (Z rs.length).length := fun t => by
       show (((rs.zip dg).take t).flatMap _).length <= (((rs.zip dg).take rs.length).flatMap _).length
       rw [List.take_of_length_le (i := rs.length) (by rw [List.length_zip]; omega)]
       conv => rhs; rw [<- List.take_append_drop t (rs.zip dg)]
       rw [List.flatMap_append, List.length_append]
       omega
      have hZall : Z rs.length = (rs.zip dg).flatMap fun p => nthW xs f p.1.toNat p.2 := by
       show ((rs.zip dg).take rs.length).flatMap _ = _
       rw [List.take_of_length_le (i := rs.length) (by rw [List.length_zip]; omega)]
      rw [<- hZall] at hm ⊢
      rw [List.length_cons] at hm
      refine ⟨fun kv q i v => ∃ t : Nat, i = (t : Int) /\ kv + t = rs.length /\ t <= rs.length /\ OwnI w0.heap.size v q (L ++ (n : Int) :: Z t) /\ Gr s1 u q v, rs.length, ⟨0, rfl, by omega, Nat.zero_le _, by simpa [Z] using hO1u, Gr.only (Only.refl _ _)⟩, ?_⟩
      rintro kv2 q _ v ⟨t, rfl, hkv2, ht, hq, hGv⟩
      have hOv : OnlyP (fun k => s1.a = some ⟨k, 0, none⟩) w3 v := hOu.trP hGv.1
      have hOv0 : Only [] w0 v := (o3.trP (hOv.mono (G := fun k => w0.heap.size <= k) fun k _ hk => (hs1 hk).1)).only fun k hk => hk
      refine ⟨fun hc2 => ?_, fun hc2 => ?_⟩
      · have hc2 := of_decide_eq_true hc2
        have htl : t < rs.length := by omega
        have htr := List.getElem?_eq_getElem htl
        have htd := List.getElem?_eq_getElem (show t < dg.length by omega)
        obtain ⟨q', y, ad, ad2, hq', hy, hnq, b1, b2, _⟩ := rat htr hOv
        have hds : ds[t]? = some ((dg[t]'(by omega) : Nat) : Int) := (congrArg (fun z : List Int => z[t]?) hdd).trans (by rw [List.getElem?_map, htd]; rfl)
        obtain ⟨ad3, c1, c2⟩ := int_at (hDv hGv).sl hds
        have hdlt := digs_lt hpos htr htd
        have hz1 := hZ t _ _ htr htd
        have hz2 := hZle (t + 1)
        rw [hz1, List.length_append] at hz2
        refine ⟨ad, b1, _, b2, ad3, c1, _, c2, ?_⟩
        rw [hq'] at hdlt hz1 ⊢
        rw [hq'] at hz2
        rw [Int.toNat_natCast] at hz1 hz2
        refine (cput_c hF hC hFw hGw f q' _ hy (by omega) hdlt hq hOv0 (by simp only [List.length_append, List.length_cons]; omega)).mono ?_
        rintro _ w11 ⟨s11, rfl, h11, o11⟩
        refine ⟨s11, rfl, kv2 - 1, by omega, t + 1, by rw [wr' (by omega) (by omega)]; rfl, by omega, by omega, ?_, hGv.trans o11⟩
        rw [hz1]
        rw [List.append_assoc, List.cons_append] at h11
        exact h11
      · have hc2 := of_decide_eq_false hc2
        have : t = rs.length := by omega
        subst this
        exact ⟨q, rfl, hq, (g4'.trans (Gr.only hOu)).trans hGv⟩
end
structure WkB (b b1 b2 b3 : Nat) (l sa : Sl) (xs : List Spo) (act : List Int) (F G : Nat -> Prop) (w : World) : Prop where
 lb : Blk w b 32 [l.v]
 ab : Blk w b1 30 [sa.v]
 fb : Blk w b3 59 [.func (.func 25) #[] #[.pointer (some ⟨b2, 0, none⟩), .pointer (some ⟨b, 0, none⟩), .pointer (some ⟨b1, 0, none⟩), .pointer (some ⟨b3, 0, none⟩)]]
 sp : SliceF rSp 5 w F l xs
 ac : SliceF rInt 1 w G sa act
 nF : ∀ k, F k -> k ≠ b2
 nG : ∀ k, G k -> k ≠ b2
 n0 : b ≠ b2
 n1 : b1 ≠ b2
 n3 : b3 ≠ b2
section
variable {b b1 b2 b3 : Nat} {F G : Nat -> Prop} {l sa : Sl} {xs : List Spo} {act : List Int}
theorem WkB.only {w w' : World} (h : WkB b b1 b2 b3 l sa xs act F G w) (hO : Only [b2] w w') : WkB b b1 b2 b3 l sa xs act F G w' :=
 ⟨hO.blk h.lb (by simpa using h.n0), hO.blk h.ab (by simpa using h.n1), hO.blk h.fb (by simpa using h.n3), SliceF.only rSp_ok (by decide) h.sp hO fun k hk _ hm => h.nF k hk (by simpa using hm), SliceF.only rInt_ok (by decide) h.ac hO fun k hk _ hm => h.nG k hk (by simpa using hm), h.nF, h.nG, h.n0, h.n1, h.n3⟩
theorem walk_c (hF : Sd xs) (hr : act.Pairwise (· < ·)) (hne : act ≠ []) (hm : act.length <= 1000000000) : ∀ (f n : Nat) {w : World} {x : Spo} {left : Int}, xs[n]? = some x -> xs.length <= n + f -> WkB b b1 b2 b3 l sa xs act F G w -> Blk w b2 3 [.int .i64 left] -> -1000 <= left - (vis xs act f n).length -> left <= 1000000000 ->
  Calls Try.prog 25 #[.int .i64 (n : Int), .pointer (some ⟨b2, 0, none⟩), .pointer (some ⟨b, 0, none⟩), .pointer (some ⟨b1, 0, none⟩), .pointer (some ⟨b3, 0, none⟩)] w fun e w' =>
   (∃ r : Bool, e = .returned (.bool r) /\ (r = true ↔ ∀ m, m ∈ vis xs act f n -> onOk xs act m.toNat = true) /\ ∃ left' : Int, Blk w' b2 3 [.int .i64 left'] /\ (r = true -> left' = left - (vis xs act f n).length)) /\ Only [b2] w w'
 | 0, n, w, x, left, hx, hf, _, _, _, _ => by
  have := get_lt hx
  omega
 | f + 1, n, w, x, left, hx, hf, hW, hB, hlo, hhi => by
  have hle := hF.le
  have hvl := hF.vis_len act (f + 1) hx
  refine (v3w n ⟨b2, 0, none⟩ ⟨b, 0, none⟩ ⟨b1, 0, none⟩ ⟨b3, 0, none⟩ (fun v w' => (∃ r : Bool, v = .bool r /\ (r = true ↔ ∀ m, m ∈ vis xs act (f + 1) n -> onOk xs act m.toNat = true) /\ ∃ left' : Int, Blk w' b2 3 [.int .i64 left'] /\ (r = true -> left' = left - (vis xs act (f + 1) n).length)) /\ Only [b2] w w') w ?_).mono (by rintro _ w' ⟨v, rfl, ⟨r, rfl, h⟩, h'⟩; exact ⟨⟨r, rfl, h⟩, h'⟩)
  unfold v3v
  refine ⟨left, hB.cells 0 _ (by simp), b2, 0, _, _, rfl, hB, by simp, fun w0 hO0 hB0 => ?_⟩
  have hv1 : 1 <= (vis xs act (f + 1) n).length := by rw [vis, List.length_cons]; omega
  have hB0 : Blk w0 b2 3 [.int .i64 (left - 1)] := by
   rw [<- wr' (x := left - 1) (by omega) (by omega)]
   exact hB0
  have hW0 := hW.only hO0
  refine ⟨l, hW0.lb.cells 0 _ (by simp), (regions_c hW0.sp hF hx).mono ?_⟩
  rintro _ w1 ⟨⟨s1, rfl, hS1⟩, hO1⟩
  have o1 : Only [b2] w w1 := hO0.tr0 hO1
  have hW1 := hW.only o1
  have hb2 : b2 < w0.heap.size := hB0.lt
  have hB1 : Blk w1 b2 3 [.int .i64 (left - 1)] := hO1.blk hB0 (by simp)
  have hl1 := hS1.len
  have hrl := regs_len xs n
  have hrr : ∀ {r : Int}, r ∈ regs xs n -> _ := fun {r} h => hF.reg (n := n) (r := r) h
  have eo : onC xs act n = (regs xs n).countP fun r => decide (r ∈ act) := rfl
  have hek : onOk xs act n = if x.k = 2 then onC xs act n == (regs xs n).length else onC xs act n == min 1 (regs xs n).length := by unfold onOk; rw [kd_at hx]
  have hcl : onC xs act n <= (regs xs n).length := List.countP_le_length
  have hvis : vis xs act (f + 1) n = (n : Int) :: ((regs xs n).filter fun r => decide (r ∈ act)).flatMap fun r => vis xs act f r.toNat := rfl
  rw [hvis] at hlo ⊢
  generalize regs xs n = rs at *
  let V : Nat -> List Int := fun t => ((rs.take t).filter fun r => decide (r ∈ act)).flatMap fun r => vis xs act f r.toNat
  have hV : ∀ t r, rs[t]? = some r -> V (t + 1) = V t ++ if decide (r ∈ act) = true then vis xs act f r.toNat else [] := fun t r ht => by
   show ((rs.take (t + 1)).filter _).flatMap _ = _
   rw [List.take_add_one, ht, List.filter_append, List.flatMap_append]
   congr 1
   show (List.filter _ [r]).flatMap _ = _
   rw [List.filter_cons, List.filter_nil]
   split <;> simp
  have hVle : ∀ t, (V t).length <= (V rs.length).length := fun t => by
   show (((rs.take t).filter _).flatMap _).length <= (((rs.take rs.length).filter _).flatMap _).length
   rw [List.take_of_length_le (Nat.le_refl rs.length)]
   conv => rhs; rw [<- List.take_append_drop t rs]
   rw [List.filter_append, List.flatMap_append, List.length_append]
   omega
  have hVall : V rs.length = (rs.filter fun r => decide (r ∈ act)).flatMap fun r => vis xs act f r.toNat := by
   show ((rs.take rs.length).filter _).flatMap _ = _
   rw [List.take_of_length_le (Nat.le_refl rs.length)]
  rw [<- hVall] at hlo ⊢
  rw [List.length_cons] at hlo ⊢
  refine ⟨s1, rfl, fun kv on i u => ∃ t : Nat, i = (t : Int) /\ kv + t = rs.length /\ t <= rs.length /\ on = (((rs.take t).countP fun r => decide (r ∈ act) : Nat) : Int) /\ (∀ m, m ∈ V t -> onOk xs act m.toNat = true) /\ Blk u b2 3 [.int .i64 (left - 1 - (V t).length)] /\ Only [b2] w u /\ Only [b2] w1 u, rs.length, ⟨0, rfl, by omega, Nat.zero_le _, by simp, by simp [V], by simpa [V] using hB1, o1, Only.refl _ _⟩, ?_⟩
  rintro kv _ _ u ⟨t, rfl, hkv, ht, rfl, hok, hBu, hO, hOu⟩
  have hWu := hW.only hO
  have hSu : OwnI w0.heap.size u s1 rs := hS1.keep rInt_ok fun k hk hlt => hOu.block k hlt fun hm => by
   have := hk.elim False.elim fun h => h.1
   simp only [List.mem_singleton] at hm
   omega
  refine ⟨fun hc => ?_, fun hc => ?_⟩
  · have hc := of_decide_eq_true hc
    have htl : t < rs.length := by omega
    obtain ⟨ad, a1, a2⟩ := int_at hSu.sl (List.getElem?_eq_getElem htl)
    have hcn : (rs.take t).countP (fun r => decide (r ∈ act)) <= t := Nat.le_trans List.countP_le_length (by rw [List.length_take]; omega)
    have htk : (rs.take (t + 1)).countP (fun r => decide (r ∈ act)) = (rs.take t).countP (fun r => decide (r ∈ act)) + if decide (rs[t] ∈ act) = true then 1 else 0 := by
     rw [List.take_add_one, List.getElem?_eq_getElem htl, List.countP_append]
     congr 1
     show List.countP _ [rs[t]] = _
     rw [List.countP_cons, List.countP_nil, Nat.zero_add]
    have hvt := hV t _ (List.getElem?_eq_getElem htl)
    have hv2 := hVle (t + 1)
    obtain ⟨q, y, hq, hy, hpa, _, hnq, _⟩ := hrr (List.getElem_mem htl)
    refine ⟨fun i6 u' => i6 = (((rs.take (t + 1)).countP fun r => decide (r ∈ act) : Nat) : Int) /\ (∀ m, m ∈ V (t + 1) -> onOk xs act m.toNat = true) /\ Blk u' b2 3 [.int .i64 (left - 1 - (V (t + 1)).length)] /\ Only [b2] w u' /\ Only [b2] w1 u', fun i6 u' ⟨h1, h2⟩ => ⟨kv - 1, by omega, t + 1, by rw [wr' (by omega) (by omega)]; rfl, by omega, by omega, h1, h2⟩, ad, a1, _, a2, sa, hWu.ab.cells 0 _ (by simp), (bs_c hWu.ac hr hne hm _).mono ?_⟩
    rintro _ u4 ⟨⟨i5, rfl⟩, hO4⟩
    have hW4 := hWu.only (hO4.weaken (by simp))
    have hB4 : Blk u4 b2 3 [.int .i64 (left - 1 - (V t).length)] := hO4.blk hBu (by simp)
    refine ⟨i5, _, rfl, fun hb => ?_, fun hb => ⟨?_, ?_, ?_, hO.tr0 hO4, hOu.tr0 hO4⟩⟩
    · rw [if_pos hb] at hvt htk
      rw [hq, Int.toNat_natCast] at hvt
      have hlen : (V (t + 1)).length = (V t).length + (vis xs act f q).length := by rw [hvt, List.length_append]
      have hrec := walk_c hF hr hne hm f q hy (by omega) hW4 hB4 (by omega) (by omega)
      refine ⟨⟨.func (.func 25) #[] #[.pointer (some ⟨b2, 0, none⟩), .pointer (some ⟨b, 0, none⟩), .pointer (some ⟨b1, 0, none⟩), .pointer (some ⟨b3, 0, none⟩)], rfl⟩, hW4.fb.cells 0 _ (by simp), 25, [], [.pointer (some ⟨b2, 0, none⟩), .pointer (some ⟨b, 0, none⟩), .pointer (some ⟨b1, 0, none⟩), .pointer (some ⟨b3, 0, none⟩)], rfl, fnOk_run (by kernel_rfl), ?_⟩
      rw [hq]
      refine hrec.mono ?_
      rintro _ u6 ⟨⟨r, rfl, hri, left', hB6, hle6⟩, hO6⟩
      have o6 : Only [b2] w u6 := (hO.tr0 hO4).mem hO6 (by simp)
      have o6' : Only [b2] w1 u6 := (hOu.tr0 hO4).mem hO6 (by simp)
      refine ⟨r, rfl, fun hf => ?_, fun ht' => ?_⟩
      · have hf : r = false := by simpa using hf
        refine ⟨⟨false, rfl, ⟨(fun h => by cases h), fun hall => ?_⟩, left', hB6, fun h => by cases h⟩, o6⟩
        have : r = true := hri.2 fun m hm' => hall m (List.mem_cons_of_mem _ (by
         rw [hVall]
         exact List.mem_flatMap.2 ⟨rs[t], List.mem_filter.2 ⟨List.getElem_mem htl, hb⟩, by rw [hq, Int.toNat_natCast]; exact hm'⟩))
        rw [hf] at this
        cases this
      · have ht' : r = true := by simpa using ht'
        refine ⟨by rw [wr' (by omega) (by omega), htk]; rfl, fun m hm' => ?_, ?_, o6, o6'⟩
        · rw [hvt, List.mem_append] at hm'
          rcases hm' with hm' | hm'
          · exact hok m hm'
          · exact hri.1 ht' m hm'
        · rw [hle6 ht'] at hB6
          rw [hlen]
          rw [show left - 1 - (((V t).length + (vis xs act f q).length : Nat) : Int) = left - 1 - ((V t).length : Int) - ((vis xs act f q).length : Int) by omega]
          exact hB6
    · rw [htk, if_neg (by rw [hb]; decide)]
      rfl
    · rw [hvt, if_neg (by rw [hb]; decide), List.append_nil]
      exact hok
    · rw [hvt, if_neg (by rw [hb]; decide), List.append_nil]
      exact hB4
  · have hc := of_decide_eq_false hc
    have : t = rs.length := by omega
    subst this
    obtain ⟨ad, a1, a2, _⟩ := sp_at hWu.sp hx
    rw [List.take_of_length_le (Nat.le_refl _), <- eo]
    have fin : ∀ r : Bool, r = onOk xs act n -> (∃ r' : Bool, Value.bool r = .bool r' /\ (r' = true ↔ ∀ m, m ∈ (n : Int) :: V rs.length -> onOk xs act m.toNat = true) /\ ∃ left' : Int, Blk u b2 3 [.int .i64 left'] /\ (r' = true -> left' = left - (((V rs.length).length + 1 : Nat) : Int))) /\ Only [b2] w u := fun r hr' => ⟨⟨r, rfl, ⟨fun h m hm' => ?_, fun h => ?_⟩, _, hBu, fun _ => by omega⟩, hO⟩
    · refine ⟨l, hWu.lb.cells 0 _ (by simp), ad, a1, x.k, a2.part 0 fun i v hi => one_part hi rfl, fun hk => fin _ ?_, fun hk => fin _ ?_⟩
      · rw [hek, if_pos (by simpa using hk), Bool.eq_iff_iff, beq_iff_eq, beq_iff_eq]
        omega
      · rw [hek, if_neg (by simpa using hk), Bool.eq_iff_iff, Bool.or_eq_true, beq_iff_eq, beq_iff_eq, beq_iff_eq]
        omega
    · rw [List.mem_cons] at hm'
      rcases hm' with rfl | hm'
      · rw [Int.toNat_natCast, <- hr']
        exact h
      · exact hok m hm'
    · rw [hr']
      have := h n (.head _)
      rwa [Int.toNat_natCast] at this
end
theorem take_rise {act : List Int} {t : Nat} (h : t + 1 < act.length) : (act.take (t + 2)).Pairwise (· < ·) ↔ (act.take (t + 1)).Pairwise (· < ·) /\ act[t] < act[t + 1] := by
 rw [List.take_add_one (i := t + 1), List.getElem?_eq_getElem h, List.pairwise_append]
 constructor
 · rintro ⟨h1, _, h3⟩
   refine ⟨h1, h3 _ ?_ _ (by simp)⟩
   exact List.mem_iff_getElem.2 ⟨t, by rw [List.length_take]; omega, by rw [List.getElem_take]⟩
 · rintro ⟨h1, h2⟩
   refine ⟨h1, by simp, fun p hp q hq => ?_⟩
   simp only [Option.toList, List.mem_singleton] at hq
   subst hq
   obtain ⟨i, hi, rfl⟩ := List.getElem_of_mem hp
   rw [List.length_take] at hi
   by_cases hit : i = t
   · subst hit
     rw [List.getElem_take]
     exact h2
   · have := List.pairwise_iff_getElem.1 h1 i t (by rw [List.length_take]; omega) (by rw [List.length_take]; omega) (by omega)
     rw [List.getElem_take, List.getElem_take] at this
     rw [List.getElem_take]
     omega
theorem Lg.zero {xs : List Spo} {act : List Int} (h : Lg xs act) : act[0]? = some 0 := by
 obtain ⟨i, hi, he⟩ := List.getElem_of_mem h.rt
 by_cases h0 : i = 0
 · subst h0
   rw [List.getElem?_eq_getElem hi, he]
 · have h1 := List.pairwise_iff_getElem.1 h.rise 0 i (by omega) hi (by omega)
   have h2 := (h.at_ _ (List.getElem_mem (show 0 < act.length by omega))).ge
   omega
theorem legal_c {w : World} {F G : Nat -> Prop} {l sa : Sl} {xs : List Spo} {act : List Int} (h : SliceF rSp 5 w F l xs) (hF : Sd xs) (ha : SliceF rInt 1 w G sa act) (hm : act.length <= 1000000000) : Calls Try.prog 15 #[l.v, sa.v] w fun e w' => (∃ r : Bool, e = .returned (.bool r) /\ (r = true ↔ Lg xs act)) /\ Only [] w w' := by
 refine (v4w l sa (fun v w' => (∃ r : Bool, v = .bool r /\ (r = true ↔ Lg xs act)) /\ Only [] w w') w ?_).mono (by rintro _ w' ⟨v, rfl, ⟨s, rfl, h⟩, h'⟩; exact ⟨⟨s, rfl, h⟩, h'⟩)
 unfold v4v
 intro b b1 w1 hb hb' hb1 hb1' hO1
 have z1 := hO1.size
 have hal := ha.len
 have hcap := ha.cap
 have ha1 := kI ha hO1
 have no : ∀ {u : World}, ¬ Lg xs act -> Only [] w u -> (∃ r : Bool, Value.bool false = .bool r /\ (r = true ↔ Lg xs act)) /\ Only [] w u := fun hn hO => ⟨⟨false, rfl, (fun h => by cases h), fun h => absurd h hn⟩, hO⟩
 obtain ⟨ad, x1, a1, a2, a3⟩ : ∃ (ad : Addr) (x1 : Int), ((((sa.n : Nat) : Int) == 0) = false -> SlAt sa 0 1 ad) /\ ((((sa.n : Nat) : Int) == 0) = false -> Cells w1 ad [.int .i64 x1]) /\ (0 < act.length -> act[0]? = some x1) := by
  by_cases h0 : 0 < act.length
  · obtain ⟨ad, c1, c2⟩ := int_at ha1 (List.getElem?_eq_getElem h0)
    exact ⟨ad, _, fun _ => c1, fun _ => c2, fun _ => List.getElem?_eq_getElem h0⟩
  · exact ⟨default, 0, fun hh => absurd (by simpa using hh) (show ¬ sa.n ≠ 0 by omega), fun hh => absurd (by simpa using hh) (show ¬ sa.n ≠ 0 by omega), fun hh => absurd hh h0⟩
 refine ⟨ad, a1, x1, a2, fun hc => no (fun hL => ?_) hO1, fun hc => ?_⟩
 · have e0 := hL.zero
   have h0 : 0 < act.length := by
    cases act with
    | nil => cases e0
    | cons a l => exact Nat.succ_pos _
   rw [a3 h0] at e0
   injection e0 with e0
   rw [e0] at hc
   rw [Bool.or_eq_true] at hc
   rcases hc with hc | hc
   · have : (sa.n : Int) = 0 := by simpa using hc
     omega
   · exact absurd hc (by decide)
 rw [Bool.or_eq_false_iff] at hc
 have hn0 : (sa.n : Int) ≠ 0 := by simpa using hc.1
 have h0 : 0 < act.length := by omega
 have e0 : act[0]? = some 0 := by
  rw [a3 h0]
  have : x1 = 0 := by simpa using hc.2
  rw [this]
 have hne : act ≠ [] := List.length_pos_iff.1 h0
 refine ⟨⟨by omega, hcap, Nat.le_refl _⟩, fun b2 b3 w5 hb2 hb2' hb3 hb3' hO5 hB hB1 hB2 hB3 => ?_⟩
 have o5 := hO1.tr0 hO5
 have z5 := hO5.size
 have ha5 := kI ha o5
 have hcut := SliceF.cut ha5 (lo := 1) (hi := sa.n) (m := sa.c) (by omega) hcap (Nat.le_refl _) (Nat.le_refl _)
 have hcn : (Sl.cut sa 1 sa.n sa.c 1).n = sa.n - 1 := rfl
 have hdr : ∀ t, t + 1 < act.length -> ((act.drop 1).take (sa.n - 1))[t]? = act[t + 1]? := fun t ht => by
  rw [List.getElem?_take_of_lt (by omega), List.getElem?_drop, Nat.add_comm]
 refine ⟨fun nv ris i u => ∃ t : Nat, i = (t : Int) /\ nv + t = act.length /\ t + 1 <= act.length /\ (ris = true ↔ (act.take (t + 1)).Pairwise (· < ·)) /\ w5 = u, act.length, ⟨0, rfl, rfl, h0, ⟨fun _ => by
  rw [List.take_add_one, List.take_zero]
  cases act[0]? <;> simp, fun _ => rfl⟩, rfl⟩, ?_⟩
 rintro nv ris _ _ ⟨t, rfl, hnv, ht, hri, rfl⟩
 rw [hcn]
 refine ⟨fun hc2 => ?_, fun hc2 _ _ _ _ => ?_⟩
 · have hc2 := of_decide_eq_true hc2
   have htl : t + 1 < act.length := by omega
   obtain ⟨ad1, c1, c2⟩ := int_at hcut (i := t) (by rw [hdr t htl]; exact List.getElem?_eq_getElem htl)
   obtain ⟨ad2, c3, c4⟩ := int_at ha5 (List.getElem?_eq_getElem (show t < act.length by omega))
   refine ⟨ad1, c1, fun _ _ _ _ => ⟨_, c2, ad2, fun _ => c3, _, fun _ => c4, nv - 1, by omega, t + 1, by rw [wr' (by omega) (by omega)]; rfl, by omega, by omega, ?_, rfl⟩⟩
   rw [take_rise htl, Bool.and_eq_true, hri, decide_eq_true_eq]
 · have hc2 := of_decide_eq_false hc2
   rw [List.take_of_length_le (by omega)] at hri
   refine ⟨fun r u => (r = true ↔ Lg xs act) /\ Only [] w u, fun r u hh _ _ _ => ⟨⟨r, rfl, hh.1⟩, hh.2⟩, fun hrt => ?_, fun hrf => ⟨⟨(fun h => by cases h), fun hL => ?_⟩, o5⟩⟩
   · obtain ⟨s, hs, _⟩ := hF.rt
     have hW : WkB b b1 b2 b3 l sa xs act (fun k => F k /\ k < w.heap.size) (fun k => G k /\ k < w.heap.size) w5 :=
      ⟨hB, hB1, hB3, SliceF.only rSp_ok (by decide) (SliceF.inHeap rSp_ok h (by decide)) o5 (by simp), kI (SliceF.inHeap rInt_ok ha (by decide)) o5, fun k hk => by omega, fun k hk => by omega, by omega, by omega, fun e => by
       subst e
       have := hB2
       have e1 := hB3
       unfold Blk at this e1
       rw [this] at e1
       injection e1 with e1
       injection e1 with e1
       cases e1⟩
     have hvl := hF.vis_len act xs.length hs
     refine (walk_c hF (hri.1 hrt) hne hm xs.length 0 hs (by omega) hW hB2 (by omega) (by omega)).mono ?_
     rintro _ w8 ⟨⟨r, rfl, hr1, left', hB8, hr2⟩, hO8⟩
     refine ⟨r, rfl, hO8.same fun x hx => ?_, left', hB8, ?_, (o5.trP (hO8.p (F := fun k => w.heap.size <= k) fun x hx => by simp only [List.mem_singleton] at hx; exact .inl (by omega))).only fun k hk => hk⟩
     · have n3 := hW.n3
       simp only [List.mem_cons, List.not_mem_nil, or_false] at hx ⊢
       rcases hx with rfl | rfl | rfl
       · exact ⟨by omega, hW.n0⟩
       · exact ⟨by omega, hW.n1⟩
       · exact ⟨by omega, n3⟩
     · rw [<- hF.legal_iff e0 xs.length (Nat.le_refl _), Bool.and_eq_true]
       constructor
       · rintro ⟨h1, h2⟩
         have h2 : left' = 0 := by simpa using h2
         have := hr2 h1
         exact ⟨hri.1 hrt, hr1.1 h1, by omega⟩
       · rintro ⟨h1, h2, h3⟩
         have h4 := hr1.2 h2
         have := hr2 h4
         exact ⟨h4, by rw [beq_iff_eq]; omega⟩
   · rw [hri.2 hL.rise] at hrf
     cases hrf
end Go.Proofs.Ytddfmhccaapgjaa.Con
