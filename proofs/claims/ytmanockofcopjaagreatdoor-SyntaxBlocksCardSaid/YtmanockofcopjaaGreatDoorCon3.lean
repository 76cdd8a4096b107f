
/-
  Own work: what the functions of the scan package do: tokens, one by one.
-/
import Derived.Test.YtmanockofcopjaaGreatDoorCon2
namespace Go.Proofs.YtmanockofcopjaaGreatDoor.Con
open Go Go.RowKit Go.Kt Go.Kt.V Go.Proofs.YtmanockofcopjaaGreatDoor.Vc
set_option linter.unusedSimpArgs false
set_option linter.unusedVariables false
set_option maxHeartbeats 4000000

structure Tk where
  k : Int
  t : List UInt8
  n : Int
  a : Int
deriving DecidableEq
def Tk.v (x : Tk) : Value := .agg #[.int .i64 x.k, .string (T x.t), .int .i64 x.n, .int .i64 x.a]
def rTk : Rp Tk := fun _ _ x cs => cs = [.int .i64 x.k, .string (T x.t), .int .i64 x.n, .int .i64 x.a]
theorem rTk_ok : rTk.Ok where
  keep h _ := h
  inHeap h := h
  mono h _ := h
  one := by
    rintro w F x cs h v hv
    unfold rTk at h
    subst h
    simp only [List.mem_cons, List.not_mem_nil, or_false] at hv
    rcases hv with rfl | rfl | rfl | rfl <;> rfl
abbrev OwnK (B : Nat) (w : World) (s : Sl) (xs : List Tk) : Prop := Own rTk 4 60 B w (fun _ => True) s xs
theorem OwnK.of {B : Nat} {w : World} {F : Nat → Prop} {s : Sl} {xs : List Tk} (h : Own rTk 4 60 B w F s xs) : OwnK B w s xs := h.mono rTk_ok fun _ _ => trivial
theorem OwnK.sl {B : Nat} {w : World} {s : Sl} {xs : List Tk} (h : OwnK B w s xs) : SliceF rTk 4 w (fun k => B ≤ k ∧ s.a = some ⟨k, 0, none⟩) s xs := flatO rTk_ok (fun _ _ _ _ _ h => h) h
theorem OwnK.flat {B : Nat} {w : World} {s : Sl} {xs : List Tk} (h : OwnK B w s xs) : Own rTk 4 60 B w (fun _ => False) s xs := by
  rcases h with h | ⟨g, css, tail, a1, a2, a4, a5, a6, a7, a9, a8⟩
  · exact .inl h
  · exact .inr ⟨g, css, tail, a1, a2, a4, a5, a6, a7, a9, All2.imp (fun _ _ h => h) a8⟩
theorem OwnK.keep {B : Nat} {w w' : World} {s : Sl} {xs : List Tk} (h : OwnK B w s xs) (hk : ∀ k, B ≤ k ∧ s.a = some ⟨k, 0, none⟩ → k < w.heap.size → w'.heap[k]? = w.heap[k]?) : OwnK B w' s xs :=
  OwnK.of (h.flat.keep rTk_ok fun k hF hlt => hk k (hF.elim False.elim id) hlt)
theorem OwnK.only {B : Nat} {w w' : World} {s : Sl} {xs : List Tk} (h : OwnK B w s xs) (hO : Only [] w w') : OwnK B w' s xs := h.keep fun k _ hlt => hO.block k hlt (by simp)
theorem OwnK.p {B : Nat} {w w' : World} {s : Sl} {xs : List Tk} {D : Nat → Prop} (h : OwnK B w s xs) (hO : OnlyP D w w') (hD : ∀ k, B ≤ k → s.a = some ⟨k, 0, none⟩ → ¬ D k) : OwnK B w' s xs := h.keep fun k hk hlt => hO.block k hlt (hD k hk.1 hk.2)
/-- one more, behind -/
theorem push_k {w : World} {B : Nat} {s : Sl} {xs : List Tk} (t : Tk) (hs : OwnK B w s xs) (hB : B ≤ w.heap.size) (hm : (xs.length + 1) * 40 ≤ 140737488355328) :
    ∃ y w1, (Instr.buildSlice 55 1 #[(0, t.v)]).run Tryz.prog w = .ok (Sl.v y) w1 ∧ Only [] w w1 ∧ ∃ s' w2, (Builtin.append_ #[55, 55] 55 #[Sl.v s, Sl.v y]).run Tryz.prog w1 = .ok (Sl.v s') w2 ∧ OwnK B w2 s' (xs ++ [t]) ∧ OnlyP (fun k => B ≤ k ∧ s.a = some ⟨k, 0, none⟩) w1 w2 := by
  obtain ⟨y, w1, k1, k2, s', w2, k3, k4, ⟨gs, k5, k6⟩, _⟩ := app_one (P := Tryz.prog) (t := 55) (ty := 55) (e := 60) (i := Tryz.t60) (bytes := 40) (size := 4) (v := t.v) (x := t) (G := fun _ => False) (by kernel_rfl) (by kernel_rfl) rfl rfl rfl rfl (by decide) (by decide) (by decide) rTk_ok hs hB rfl rfl (fun k hk _ => hk.elim) hm
  exact ⟨y, w1, k1, k2, s', w2, k3, OwnK.of k4, k5.p fun g hg => .inl ⟨(k6 g hg).2.1, (k6 g hg).1⟩⟩

/-! ## words -/
def wordsL : List (List UInt8) := [[97, 102, 116, 101, 114], [97, 108, 119, 97, 121, 115], [99, 104, 97, 114, 116], [100, 101, 101, 112], [101, 109, 105, 116], [101, 110, 116, 101, 114], [104, 105, 115, 116, 111, 114, 121], [105, 110], [105, 110, 105, 116, 105, 97, 108], [108, 101, 97, 118, 101], [111, 110], [112, 97, 114, 97, 108, 108, 101, 108], [114, 97, 105, 115, 101], [115, 101, 116], [115, 116, 97, 116, 101], [118, 97, 114]]
theorem words_c (w : World) : Calls Tryz.prog 56 #[] w fun e w' => ∃ s : Sl, e = .returned s.v ∧ Own rTx 1 9 w.heap.size w' (fun _ => True) s wordsL ∧ Only [] w w' := by
  refine (scan_Words_wp (fun v w' => ∃ s : Sl, v = s.v ∧ Own rTx 1 9 w.heap.size w' (fun _ => True) s wordsL ∧ Only [] w w') w ?_).mono (by
    rintro e w' ⟨v, rfl, s, rfl, h⟩; exact ⟨s, rfl, h⟩)
  unfold scan_Words_vc
  obtain ⟨s, w', h1, h2, h3⟩ := buildS w wordsL (n := 16) rfl rfl (by decide) (by decide)
  exact ⟨s, w', h1, s, rfl, h2, h3⟩

/-! ## a cutter -/
structure Cut (w : World) (b : Nat) (l : List UInt8) (i : Nat) (rs : Sl) (acc : List Tk) : Prop where
  blk : ∃ ws : Sl, Blk w b 116 [.string (T l), .int .i64 (i : Int), ws.v, rs.v] ∧ SliceF rTx 1 w (fun k => k < b) ws wordsL
  own : OwnK (b + 1) w rs acc
  er : Er w
  gb : 2 < b
  il : i ≤ l.length
  ll : l.length ≤ 16384
theorem Cut.lt {w : World} {b : Nat} {l : List UInt8} {i : Nat} {rs : Sl} {acc : List Tk} (h : Cut w b l i rs acc) : b < w.heap.size := by
  obtain ⟨ws, h1, _⟩ := h.blk
  exact h1.lt
theorem Cut.only {w w' : World} {b : Nat} {l : List UInt8} {i : Nat} {rs : Sl} {acc : List Tk} (h : Cut w b l i rs acc) (hO : Only [] w w') : Cut w' b l i rs acc := by
  obtain ⟨ws, h1, h2⟩ := h.blk
  exact ⟨⟨ws, (hO.block b h1.lt (by simp)).trans h1, SliceF.only rTx_ok (by decide) h2 hO (by simp)⟩, h.own.only hO, h.er.only hO, h.gb, h.il, h.ll⟩
theorem Cut.move {w w' : World} {b : Nat} {l : List UInt8} {i j : Nat} {rs : Sl} {acc : List Tk} (h : Cut w b l i rs acc) (hO : Only [b] w w') (hj : j ≤ l.length) (hB : ∀ ws : Sl, Blk w b 116 [.string (T l), .int .i64 (i : Int), ws.v, rs.v] → Blk w' b 116 [.string (T l), .int .i64 (j : Int), ws.v, rs.v]) : Cut w' b l j rs acc := by
  obtain ⟨ws, h1, h2⟩ := h.blk
  exact ⟨⟨ws, hB ws h1, SliceF.only rTx_ok (by decide) h2 hO (by intro k hk _; simp only [List.mem_singleton]; omega)⟩, h.own.keep fun k hk hlt => hO.block k hlt (by simp only [List.mem_singleton]; omega), h.er.keep fun hlt => hO.block _ hlt (by simp only [List.mem_singleton]; have := h.gb; omega), h.gb, hj, h.ll⟩
theorem add_c {w : World} {b : Nat} {l : List UInt8} {i : Nat} {rs : Sl} {acc : List Tk} (h : Cut w b l i rs acc) (k : Int) (t : List UInt8) (nn a0 : Int) (n : Nat) (hn : i + n ≤ l.length) (ha : acc.length ≤ 16384) :
    Calls Tryz.prog 60 #[.pointer (some ⟨b, 0, none⟩), .agg #[.int .i64 k, .string (T t), .int .i64 nn, .int .i64 a0], .int .i64 (n : Int)] w fun e w' => e = .returned (.tuple #[]) ∧ OnlyP (fun k => b ≤ k) w w' ∧ ∃ rs', Cut w' b l (i + n) rs' (acc ++ [⟨k, t, nn, i⟩]) := by
  refine ret (scan_cutter_add_wp ⟨b, 0, none⟩ k (T t) nn a0 n (fun v w' => v = .tuple #[] ∧ OnlyP (fun k => b ≤ k) w w' ∧ ∃ rs', Cut w' b l (i + n) rs' (acc ++ [⟨k, t, nn, i⟩])) w ?_)
  unfold scan_cutter_add_vc
  intro k0 w0 hk0 hk0' hO0
  have hbl := h.lt
  have hll := h.ll
  have h0 := h.only hO0
  obtain ⟨ws, hb0, hw0⟩ := h0.blk
  refine ⟨i, Blk.at1 hb0 1 rfl, fun w1 hO1 => ?_⟩
  have zb0 := hb0.lt
  have hb1 : Blk w1 b 116 _ := (hO1.block b zb0 (by simp only [List.mem_singleton]; omega)).trans hb0
  have ho1 : OwnK (b + 1) w1 rs acc := h0.own.keep fun q hq hlt => by
    refine hO1.block q hlt ?_
    simp only [List.mem_singleton]
    rintro rfl
    have := (h.own.blk hq.2).2
    dsimp only at this
    omega
  have z1 := hO1.size
  obtain ⟨y, w2, c1, c2, s', w3, c3, c4, c5⟩ := push_k ⟨k, t, nn, i⟩ ho1 (by omega) (Nat.le_trans (Nat.mul_le_mul_right 40 (show acc.length + 1 ≤ 16385 by omega)) (by decide))
  have z2 := c2.size
  have z3 := c5.size
  have hk0r : ∀ q, rs.a = some ⟨q, 0, none⟩ → q ≠ k0 := fun q hq => by
    have := (h.own.blk hq).2
    dsimp only at this
    omega
  refine ⟨fun q => q = b, rfl, rs, Blk.at1 hb1 3 rfl, y, w2, c1, c2.same (by simp; omega), Keeps.only c2, s', w3, c3, ?_, ?_, ?_⟩
  · exact c5.same (by intro x hx; simp only [List.mem_singleton] at hx; subst hx; exact ⟨by omega, fun e => hk0r _ e.2 rfl⟩)
  · intro q hq hlt
    exact c5.block q hlt (by omega)
  have hb3 : Blk w3 b 116 [.string (T l), .int .i64 (i : Int), ws.v, rs.v] := (c5.block b (by omega) (by omega)).trans ((c2.block b (by omega) (by simp)).trans hb1)
  refine ⟨b, 3, _, 116, by rw [addr_lit], hb3, by simp, by omega, fun w4 hO4 hb4 => ?_⟩
  have hb4 : Blk w4 b 116 [.string (T l), .int .i64 (i : Int), ws.v, s'.v] := hb4
  refine ⟨i, Blk.at1 hb4 1 rfl, b, 1, _, 116, by rw [addr_zero, addr_lit], hb4, by simp, by omega, fun w5 hO5 hb5 => ⟨rfl, ?_, s', ?_⟩⟩
  · have e1 : OnlyP (fun k => b ≤ k) w w1 := hO0.p0.trans (hO1.p (F := fun q => q = k0) fun b hb => .inl (by simpa using hb)) fun q hq => by omega
    have e2 : OnlyP (fun k => b ≤ k) w w3 := (e1.tr0 c2).trans c5 fun q hq => .inl (by omega)
    have e3 : OnlyP (fun k => b ≤ k) w w4 := e2.trans (hO4.p (F := fun q => q = b) fun b hb => .inl (by simpa using hb)) fun q hq => .inl (by omega)
    exact e3.trans (hO5.p (F := fun q => q = b) fun b hb => .inl (by simpa using hb)) fun q hq => .inl (by omega)
  · have z4 := hO4.size
    have hb5 : Blk w5 b 116 [.string (T l), .int .i64 (IntKind.i64.wrap ((i : Int) + n)), ws.v, s'.v] := hb5
    rw [wr' (by omega) (by omega)] at hb5
    have up : OnlyP (fun k => b ≤ k) w w5 := by
      have e1 : OnlyP (fun k => b ≤ k) w w1 := hO0.p0.trans (hO1.p (F := fun q => q = k0) fun b hb => .inl (by simpa using hb)) fun q hq => by omega
      have e2 : OnlyP (fun k => b ≤ k) w w3 := (e1.tr0 c2).trans c5 fun q hq => .inl (by omega)
      have e3 : OnlyP (fun k => b ≤ k) w w4 := e2.trans (hO4.p (F := fun q => q = b) fun b hb => .inl (by simpa using hb)) fun q hq => .inl (by omega)
      exact e3.trans (hO5.p (F := fun q => q = b) fun b hb => .inl (by simpa using hb)) fun q hq => .inl (by omega)
    have hgb := h.gb
    obtain ⟨ws', hb', hw'⟩ := h.blk
    have hwe : ws' = ws := by
      have : Blk w0 b 116 [.string (T l), .int .i64 (i : Int), ws'.v, rs.v] := (hO0.block b hbl (by simp)).trans hb'
      unfold Blk at this hb0
      rw [this] at hb0
      simp [Sl.v] at hb0
      cases ws; cases ws'; simp_all
    subst hwe
    refine ⟨⟨ws', hb5, SliceF.onlyP rTx_ok (by decide) hw' up fun q hq _ hd => by omega⟩, ?_, h.er.keep fun hlt => up.block _ hlt (by omega), hgb, hn, hll⟩
    have e4 : OwnK (b + 1) w4 s' _ := c4.keep fun q hq hlt => hO4.block q hlt (by simp only [List.mem_singleton]; omega)
    exact e4.keep fun q hq hlt => hO5.block q hlt (by simp only [List.mem_singleton]; omega)

/-! ## what a token is -/
abbrev Tq := Int × List UInt8 × Int × Nat
def wordR (m : List UInt8) : Except Int Tq :=
  if 24 < (m.takeWhile wordB).length then .error 2 else .ok (if wordsL.contains (m.takeWhile wordB) then 2 else 1, m.takeWhile wordB, 0, (m.takeWhile wordB).length)
def numR (m : List UInt8) : Except Int Tq :=
  if (parseM m).2.2 ≠ 0 then .error (parseM m).2.2 else if (parseM m).2.1 < (m.takeWhile wordB).length then .error 4 else .ok (3, [], (parseM m).1, (parseM m).2.1)
def shortL : List UInt8 := [123, 125, 40, 41, 91, 93, 59, 44, 61, 43, 45, 42, 47, 37, 60, 62, 33]
def sign2 (m : List UInt8) : Bool := match m with
  | c :: d :: _ => (d == 61 && [60, 62, 61, 33].contains c) || (d == c && [38, 124].contains c) || (c == 45 && d == 62)
  | _ => false
def signN (m : List UInt8) : Nat := if sign2 m then 2 else match m with
  | c :: _ => if shortL.contains c then 1 else 0
  | [] => 0
def signR (m : List UInt8) : Except Int Tq := if signN m = 0 then .error 4 else .ok (4, m.take (signN m), 0, signN m)
def tokR (m : List UInt8) : Except Int Tq := match m with
  | [] => .error 4
  | c :: _ => if letterB c then wordR m else if digitB c then numR m else signR m
/-- how a cutter goes on -/
def Did (w' : World) (b : Nat) (l : List UInt8) (i : Nat) (acc : List Tk) (r : Except Int Tq) (v : Value) : Prop := match r with
  | .error e => v = .int .i64 e ∧ ∃ rs, Cut w' b l i rs acc
  | .ok q => v = .int .i64 0 ∧ ∃ rs, Cut w' b l (i + q.2.2.2) rs (acc ++ [⟨q.1, q.2.1, q.2.2.1, i⟩])
theorem while_len {p : UInt8 → Bool} {l : List UInt8} : (l.takeWhile p).length ≤ l.length := by
  rw [while_take, List.length_take]; exact Nat.min_le_right _ _
theorem word_c {w : World} {b : Nat} {l : List UInt8} {i : Nat} {rs : Sl} {acc : List Tk} (h : Cut w b l i rs acc) (ha : acc.length ≤ 16384) :
    Calls Tryz.prog 103 #[.pointer (some ⟨b, 0, none⟩)] w fun e w' => ∃ v, e = .returned v ∧ OnlyP (fun k => b ≤ k) w w' ∧ Did w' b l i acc (wordR (l.drop i)) v := by
  refine scan_cutter_word_wp ⟨b, 0, none⟩ (fun v w' => OnlyP (fun k => b ≤ k) w w' ∧ Did w' b l i acc (wordR (l.drop i)) v) w ?_
  unfold scan_cutter_word_vc
  obtain ⟨ws, hb, hw⟩ := h.blk
  have hll := h.ll
  refine (row_c hb h.il (by omega)).mono ?_
  rintro _ w0 ⟨rfl, hO0⟩
  have hwl : ((l.drop i).takeWhile wordB).length ≤ l.length - i := by
    have := while_len (p := wordB) (l := l.drop i)
    rwa [List.length_drop] at this
  have hil := h.il
  refine ⟨_, rfl, fun hc => ⟨hO0.p0, ?_⟩, fun hc => ?_⟩
  · rw [T_size] at hc
    rw [wordR, if_pos (by have := of_decide_eq_true hc; omega)]
    exact ⟨rfl, rs, h.only hO0⟩
  rw [T_size] at hc
  have hc : ¬ 24 < ((l.drop i).takeWhile wordB).length := by have := of_decide_eq_false hc; omega
  rw [wordR, if_neg hc]
  generalize hm : (l.drop i).takeWhile wordB = m at *
  have h0 := h.only hO0
  obtain ⟨ws', hb', hw'⟩ := h0.blk
  refine ⟨fun k w' => k = (if wordsL.contains m then 2 else 1) ∧ Only [] w w', ?_, ws', Blk.at1 hb' 2 rfl, (containsS_c hw' m).mono ?_⟩
  · rintro _ w1 ⟨rfl, hO1⟩
    refine (ret (strings_Clone_wp (T m) (fun v w' => v = .string (T m) ∧ Only [] w1 w') w1 ?_)).mono ?_
    · unfold strings_Clone_vc
      refine (Tryz.stringslite_Clone (T m) w1 (by rw [T_size]; omega)).mono ?_
      rintro _ w2 ⟨rfl, hw⟩
      exact ⟨_, rfl, rfl, Only.of_below hw⟩
    rintro _ w2 ⟨rfl, hO2⟩
    rw [T_size]
    refine ⟨_, rfl, (add_c (h.only (hO1.tr0 hO2)) _ m 0 0 m.length (by omega) ha).mono ?_⟩
    rintro _ w3 ⟨rfl, hO3, rs', hC⟩
    exact ⟨rfl, (hO1.tr0 hO2).trP hO3, rfl, rs', hC⟩
  · rintro _ w4 ⟨rfl, hO4⟩
    refine ⟨_, rfl, fun hb => ⟨by rw [if_pos hb], hO0.tr0 hO4⟩, fun hb => ⟨by rw [hb]; rfl, hO0.tr0 hO4⟩⟩
theorem number_c {w : World} {b : Nat} {l : List UInt8} {i : Nat} {rs : Sl} {acc : List Tk} (h : Cut w b l i rs acc) (ha : acc.length ≤ 16384) :
    Calls Tryz.prog 105 #[.pointer (some ⟨b, 0, none⟩)] w fun e w' => ∃ v, e = .returned v ∧ OnlyP (fun k => b ≤ k) w w' ∧ Did w' b l i acc (numR (l.drop i)) v := by
  refine scan_cutter_number_wp ⟨b, 0, none⟩ (fun v w' => OnlyP (fun k => b ≤ k) w w' ∧ Did w' b l i acc (numR (l.drop i)) v) w ?_
  unfold scan_cutter_number_vc
  obtain ⟨ws, hb, hw⟩ := h.blk
  have hll := h.ll
  have hil := h.il
  refine (rest_c hb h.il).mono ?_
  rintro _ w0 ⟨rfl, hO0⟩
  have hdl : (l.drop i).length = l.length - i := List.length_drop
  refine ⟨_, rfl, (cparse_c (h.er.only hO0) (by omega)).mono ?_⟩
  rintro _ w1 ⟨rfl, hO1⟩
  have hO01 := hO0.tr0 hO1
  refine ⟨_, _, _, rfl, fun he => ⟨hO01.p0, ?_⟩, fun he => ?_⟩
  · rw [numR, if_pos (by simpa using he)]
    exact ⟨rfl, rs, h.only hO01⟩
  have he : ¬ (parseM (l.drop i)).2.2 ≠ 0 := by simpa using he
  have hk : (parseM (l.drop i)).2.1 ≤ (l.drop i).length := by
    have := while_len (p := digitB) (l := l.drop i)
    unfold parseM
    split
    · exact Nat.zero_le _
    · split
      · exact Nat.zero_le _
      · split
        · exact this
        · exact Nat.zero_le _
  obtain ⟨ws', hb', hw'⟩ := (h.only hO01).blk
  refine (row_c hb' h.il (by omega)).mono ?_
  rintro _ w2 ⟨rfl, hO2⟩
  have hO02 := hO01.tr0 hO2
  refine ⟨_, rfl, ?_⟩
  rw [T_size]
  refine ⟨fun hc => ⟨hO02.p0, ?_⟩, fun hc => ?_⟩
  · rw [numR, if_neg he, if_pos (by have := of_decide_eq_true hc; omega)]
    exact ⟨rfl, rs, h.only hO02⟩
  · rw [numR, if_neg he, if_neg (by have := of_decide_eq_false hc; omega)]
    refine (add_c (h.only hO02) 3 [] _ 0 (parseM (l.drop i)).2.1 (by omega) ha).mono ?_
    rintro _ w3 ⟨rfl, hO3, rs', hC⟩
    exact ⟨rfl, hO02.trP hO3, rfl, rs', hC⟩
end Go.Proofs.YtmanockofcopjaaGreatDoor.Con
