import Derived.Test.YtddfmhccaapgjaaQc5
set_option linter.unusedSectionVars false
namespace Go.Proofs.Ytddfmhccaapgjaa.Con
open Go Go.RowKit Go.Kt Go.Kt.V Go.Proofs.Ytddfmhccaapgjaa.Vc
set_option linter.unusedSimpArgs false
set_option linter.unusedVariables false
set_option maxHeartbeats 1600000
set_option maxRecDepth 100000
section
variable {xs : List Spo} {act : List Int}
theorem rkL_snoc (rec : Int -> Nat) (r : Int) : ∀ (l : List Int) (k : Nat), rkL xs act true rec (l ++ [r]) k = rkL xs act true rec l k * W xs r + rec r
 | [], k => by simp [rkL]
 | x :: l, k => by
  rw [List.cons_append, rkL, rkL, if_pos rfl, if_pos rfl, rkL_snoc rec r l]
theorem rkL_par {rec : Int -> Nat} : ∀ {l : List Int} (k : Nat), (∀ r, r ∈ l -> rec r < W xs r) -> rkL xs act true rec l k < (k + 1) * proW (W xs) l
 | [], k, _ => by simp [rkL, proW]
 | x :: l, k, h => by
  rw [rkL, if_pos rfl, proW]
  have h1 := rkL_par (l := l) (k * W xs x + rec x) fun r hr => h r (.tail _ hr)
  have h2 := h x (.head _)
  have h3 : k * W xs x + rec x + 1 <= (k + 1) * W xs x := by rw [Nat.add_mul]; omega
  have h4 := Nat.mul_le_mul_right (proW (W xs) l) h3
  rw [<- Nat.mul_assoc]
  omega
theorem rkL_one {rec : Int -> Nat} : ∀ {l : List Int} (k : Nat), (∀ r, r ∈ l -> r ∈ act -> rec r < W xs r) -> (∃ r, r ∈ l /\ r ∈ act) -> rkL xs act false rec l k < k + sumW (W xs) l
 | [], k, _, ⟨r, hr, _⟩ => by cases hr
 | x :: l, k, h, he => by
  have e : rkL xs act false rec (x :: l) k = if x ∈ act then k + rec x else rkL xs act false rec l (k + W xs x) := rfl
  rw [e, sumW]
  by_cases hx : x ∈ act
  · rw [if_pos hx]
    have := h x (.head _) hx
    omega
  · rw [if_neg hx]
    obtain ⟨r, hr, hra⟩ := he
    rw [List.mem_cons] at hr
    rcases hr with rfl | hr
    · exact absurd hra hx
    have := rkL_one (l := l) (k + W xs x) (fun r hr => h r (.tail _ hr)) ⟨r, hr, hra⟩
    omega
theorem Lg.on_par (hL : Lg xs act) {n : Nat} (hn : (n : Int) ∈ act) (hk : kd xs n = 2) : ∀ r, r ∈ regs xs n -> r ∈ act := fun r hr => by
 have h := (hL.at_ n hn).on
 rw [Int.toNat_natCast] at h
 unfold onOk at h
 rw [hk, if_pos rfl, beq_iff_eq] at h
 unfold onC at h
 have := List.countP_eq_length.1 h r hr
 exact of_decide_eq_true this
theorem Lg.on_one (hL : Lg xs act) {n : Nat} (hn : (n : Int) ∈ act) (hk : kd xs n ≠ 2) (hr : regs xs n ≠ []) : ∃ r, r ∈ regs xs n /\ r ∈ act := by
 have h := (hL.at_ n hn).on
 rw [Int.toNat_natCast] at h
 unfold onOk at h
 rw [if_neg hk, beq_iff_eq] at h
 have hl : 0 < (regs xs n).length := List.length_pos_iff.2 hr
 have hpos : 0 < onC xs act n := by omega
 unfold onC at hpos
 rw [List.countP_pos_iff] at hpos
 obtain ⟨r, h1, h2⟩ := hpos
 exact ⟨r, h1, of_decide_eq_true h2⟩
theorem rk_lt (hF : Sd xs) (hL : Lg xs act) : ∀ (f n : Nat), xs.length <= n + f -> (n : Int) ∈ act -> rkW xs act f n < W xs n
 | 0, n, hf, hn => by
  have := (hL.at_ n hn).lt
  omega
 | f + 1, n, hf, hn => by
  have hrc : ∀ r, r ∈ regs xs n -> r ∈ act -> rkW xs act f r.toNat < W xs r := fun r hr hra => by
   obtain ⟨q, t, rfl, _, _, _, h5, _⟩ := hF.reg hr
   rw [Int.toNat_natCast]
   exact rk_lt hF hL f q (by omega) hra
  rw [rkW, hF.W_eq n]
  by_cases h0 : (regs xs n).length = 0
  · rw [if_pos h0, List.eq_nil_of_length_eq_zero h0]
    exact Nat.one_pos
  rw [if_neg h0]
  by_cases hk : kd xs n = 2
  · rw [if_pos hk, hk]
    have := rkL_par (act := act) (l := regs xs n) 0 fun r hr => hrc r hr (hL.on_par hn hk r hr)
    simpa using this
  · rw [if_neg hk]
    have e : (kd xs n == 2) = false := by simpa using hk
    rw [e]
    have := rkL_one (l := regs xs n) 0 hrc (hL.on_one hn hk fun e => h0 (by rw [e]; rfl))
    omega
end
section
variable {w w0 : World} {F G G' : Nat -> Prop} {l ws sa : Sl} {xs : List Spo} {act : List Int} {k0 : Nat}
theorem crank_c (hF : Sd xs) (hL : Lg xs act) (hm : act.length <= 1000000000) : ∀ (f n : Nat) {w : World} {x : Spo}, CtB w k0 l ws xs F G -> SliceF rInt 1 w G' sa act -> xs[n]? = some x -> xs.length <= n + f -> (n : Int) ∈ act ->
  Calls Try.prog 21 #[.pointer (some ⟨k0, 0, none⟩), .int .i64 (n : Int), sa.v] w fun e w' => e = .returned (.int .i64 (rkW xs act f n : Int)) /\ Only [] w w'
 | 0, n, w, x, _, _, hx, hf, _ => by
  have := get_lt hx
  omega
 | f + 1, n, w, x, hC, ha, hx, hf, hn => by
  have hle := hF.le
  have hne : act ≠ [] := fun e => by rw [e] at hn; cases hn
  refine ret (v10w ⟨k0, 0, none⟩ n sa (fun v w' => v = .int .i64 (rkW xs act (f + 1) n : Int) /\ Only [] w w') w ?_)
  unfold v10v
  refine ⟨l, Blk.at1 hC.blk 0 rfl, (regions_c hC.sp hF hx).mono ?_⟩
  rintro _ w0 ⟨⟨s1, rfl, hS1⟩, hO1⟩
  have hl1 := hS1.len
  have hrl := regs_len xs n
  have hrr : ∀ {r : Int}, r ∈ regs xs n -> _ := fun {r} h => hF.reg (n := n) (r := r) h
  have hpos : ∀ r, r ∈ regs xs n -> 0 < W xs r := fun r hr => hF.W_reg hr
  have hpar := hL.on_par hn
  have hsum := hF.W_sum hx
  have hst : ∀ t, sumW (W xs) ((regs xs n).take t) <= sumW (W xs) (regs xs n) := fun t => sumW_take _ _ t
  have hpt : ∀ t, proW (W xs) ((regs xs n).take t) <= proW (W xs) (regs xs n) := fun t => proW_take t hpos
  have e0 : rkW xs act (f + 1) n = rkL xs act (kd xs n == 2) (fun r => rkW xs act f r.toNat) (regs xs n) 0 := rfl
  rw [kd_at hx] at e0 hpar
  have hrec : ∀ r, r ∈ regs xs n -> r ∈ act -> rkW xs act f r.toNat < W xs r := fun r hr hra => by
   obtain ⟨q, t, rfl, _, _, _, h5, _⟩ := hF.reg hr
   rw [Int.toNat_natCast]
   exact rk_lt hF hL f q (by omega) hra
  rw [e0]
  generalize regs xs n = rs at *
  let rc : Int -> Nat := fun r => rkW xs act f r.toNat
  let Iv : Nat -> Int -> Prop := fun t k => if x.k = 2 then k = (rkL xs act true rc (rs.take t) 0 : Int) else k = (sumW (W xs) (rs.take t) : Int) /\ rkL xs act false rc rs 0 = rkL xs act false rc (rs.drop t) (sumW (W xs) (rs.take t))
  have hkp : ∀ t, x.k = 2 -> rkL xs act true rc (rs.take t) 0 < proW (W xs) (rs.take t) := fun t hk => by
   have := rkL_par (act := act) (rec := rc) (l := rs.take t) 0 fun r hr => hrec r (List.mem_of_mem_take hr) (hpar hk r (List.mem_of_mem_take hr))
   simpa using this
  refine ⟨s1, rfl, fun kv k i u => ∃ t : Nat, i = (t : Int) /\ kv + t = rs.length /\ t <= rs.length /\ Iv t k /\ Only [] w0 u, rs.length, ⟨0, rfl, by omega, Nat.zero_le _, ?_, Only.refl _ _⟩, ?_⟩
  · show if x.k = 2 then _ else _
    split
    · simp [rkL]
    · simp [sumW]
  rintro kv k _ u ⟨t, rfl, hkv, ht, hI, hO⟩
  have o := hO1.tr0 hO
  refine ⟨fun hc => ?_, fun hc => ⟨?_, o⟩⟩
  · have hc := of_decide_eq_true hc
    have htl : t < rs.length := by omega
    have hmem := List.getElem_mem htl
    obtain ⟨ad, a1, a2⟩ := int_at (wp_int hS1 hO).sl (List.getElem?_eq_getElem htl)
    obtain ⟨q, y, hq, hy, _, _, hnq, _⟩ := hrr hmem
    have htk : rs.take (t + 1) = rs.take t ++ [rs[t]] := by rw [List.take_add_one, List.getElem?_eq_getElem htl]; rfl
    refine ⟨fun k u => Iv (t + 1) k /\ Only [] w0 u, fun k u ⟨h1, h2⟩ => ⟨kv - 1, by omega, t + 1, by rw [wr' (by omega) (by omega)]; rfl, by omega, by omega, h1, h2⟩, ad, a1, _, a2, (bs_c (kI ha o) hL.rise hne hm _).mono ?_⟩
    rintro _ u3 ⟨⟨i4, rfl⟩, hO3⟩
    have o3 := o.tr0 hO3
    have hC3 := hC.only o3
    obtain ⟨ad1, b1, b2, _⟩ := sp_at hC3.sp hx
    refine ⟨i4, _, rfl, l, Blk.at1 hC3.blk 0 rfl, ad1, b1, x.k, b2.part 0 fun i v hi => one_part hi rfl, fun hk w4 hO4 => ?_, fun hk => ⟨fun hb => ?_, fun hb => ?_⟩⟩
    · have hk : x.k = 2 := by simpa using hk
      have o4 := o3.tr0 hO4
      have hC4 := hC.only o4
      obtain ⟨ad2, c1, c2⟩ := int_at hC4.ws (wsL_at (get_lt hy))
      have hI : k = (rkL xs act true rc (rs.take t) 0 : Int) := by
       have : if x.k = 2 then k = (rkL xs act true rc (rs.take t) 0 : Int) else _ := hI
       rwa [if_pos hk] at this
      have hqa : (q : Int) ∈ act := by
       rw [<- hq]
       exact hpar hk _ hmem
      refine ⟨fun _ => True, trivial, ws, Blk.at1 hC4.blk 1 rfl, ad2, by rw [hq]; exact c1, trivial, _, c2, ?_⟩
      rw [hq]
      refine (crank_c hF hL hm f q hC4 (kI ha o4) hy (by omega) hqa).mono ?_
      rintro _ w5 ⟨rfl, hO5⟩
      refine ⟨_, rfl, Keeps.only hO5, ?_, ((hO.tr0 hO3).tr0 hO4).tr0 hO5⟩
      show if x.k = 2 then _ else _
      rw [if_pos hk, htk, rkL_snoc, hI, hq]
      have h1 := hkp (t + 1) hk
      rw [htk, rkL_snoc, hq] at h1
      have h2 := hpt (t + 1)
      rw [htk] at h2
      have e1 : ((rkL xs act true rc (rs.take t) 0 : Nat) : Int) * (W xs (q : Int) : Int) = ((rkL xs act true rc (rs.take t) 0 * W xs (q : Int) : Nat) : Int) := by rw [Int.natCast_mul]
      have e2 : rc (q : Int) = rkW xs act f q := by show rkW xs act f ((q : Int).toNat) = _; rw [Int.toNat_natCast]
      rw [e2] at h1
      rw [hq] at h2
      rw [e1, e2]
      generalize rkL xs act true rc (rs.take t) 0 * W xs (q : Int) = A at *
      rw [wr' (x := (A : Int)) (by omega) (by omega), wr' (by omega) (by omega)]
      omega
    · have hk : x.k ≠ 2 := by simpa using hk
      have hb := of_decide_eq_true hb
      obtain ⟨hI1, hI2⟩ : k = (sumW (W xs) (rs.take t) : Int) /\ rkL xs act false rc rs 0 = rkL xs act false rc (rs.drop t) (sumW (W xs) (rs.take t)) := by
       have : if x.k = 2 then k = (rkL xs act true rc (rs.take t) 0 : Int) else _ := hI
       rwa [if_neg hk] at this
      have hlt := hrec _ hmem hb
      rw [hq] at hb hlt ⊢
      refine (crank_c hF hL hm f q hC3 (kI ha o3) hy (by omega) hb).mono ?_
      rintro _ w6 ⟨rfl, hO6⟩
      refine ⟨_, rfl, ?_, o3.tr0 hO6⟩
      have ek : (x.k == 2) = false := by simpa using hk
      have h1 := hst (t + 1)
      rw [htk, sumW_snoc, hq] at h1
      rw [Int.toNat_natCast] at hlt
      rw [ek, wr' (by omega) (by omega)]
      have : rkL xs act false rc rs 0 = sumW (W xs) (rs.take t) + rkW xs act f q := by
       rw [hI2, List.drop_eq_getElem_cons htl]
       have e : rkL xs act false rc (rs[t] :: rs.drop (t + 1)) (sumW (W xs) (rs.take t)) = if rs[t] ∈ act then sumW (W xs) (rs.take t) + rc rs[t] else rkL xs act false rc (rs.drop (t + 1)) (sumW (W xs) (rs.take t) + W xs rs[t]) := rfl
       rw [e, hq, if_pos hb]
       show _ + rkW xs act f ((q : Int).toNat) = _
       rw [Int.toNat_natCast]
      have this' : rkL xs act false (fun r => rkW xs act f r.toNat) rs 0 = sumW (W xs) (rs.take t) + rkW xs act f q := this
      rw [this', hI1]
      congr 1
    · have hk : x.k ≠ 2 := by simpa using hk
      have hb := of_decide_eq_false hb
      obtain ⟨hI1, hI2⟩ : k = (sumW (W xs) (rs.take t) : Int) /\ rkL xs act false rc rs 0 = rkL xs act false rc (rs.drop t) (sumW (W xs) (rs.take t)) := by
       have : if x.k = 2 then k = (rkL xs act true rc (rs.take t) 0 : Int) else _ := hI
       rwa [if_neg hk] at this
      obtain ⟨ad2, c1, c2⟩ := int_at hC3.ws (wsL_at (get_lt hy))
      have h1 := hst (t + 1)
      rw [htk, sumW_snoc, hq] at h1
      refine ⟨ws, Blk.at1 hC3.blk 1 rfl, ad2, by rw [hq]; exact c1, _, c2, ?_, hO.tr0 hO3⟩
      show if x.k = 2 then _ else _
      rw [if_neg hk, htk, sumW_snoc, hI1, wr' (by omega) (by omega), hq]
      refine ⟨by omega, ?_⟩
      rw [hI2, List.drop_eq_getElem_cons htl]
      have e : rkL xs act false rc (rs[t] :: rs.drop (t + 1)) (sumW (W xs) (rs.take t)) = if rs[t] ∈ act then sumW (W xs) (rs.take t) + rc rs[t] else rkL xs act false rc (rs.drop (t + 1)) (sumW (W xs) (rs.take t) + W xs rs[t]) := rfl
      rw [e, if_neg hb, hq]
  · have hc := of_decide_eq_false hc
    have : t = rs.length := by omega
    subst this
    have hI : if x.k = 2 then k = (rkL xs act true rc (rs.take rs.length) 0 : Int) else k = (sumW (W xs) (rs.take rs.length) : Int) /\ rkL xs act false rc rs 0 = rkL xs act false rc (rs.drop rs.length) (sumW (W xs) (rs.take rs.length)) := hI
    rw [List.take_of_length_le (Nat.le_refl _)] at hI
    by_cases hk : x.k = 2
    · rw [if_pos hk] at hI
      rw [hI, hk]
      rfl
    · rw [if_neg hk, List.drop_length] at hI
      have ek : (x.k == 2) = false := by simpa using hk
      rw [ek, hI.1]
      have : rkL xs act false (fun r => rkW xs act f r.toNat) rs 0 = sumW (W xs) rs := hI.2
      rw [this]
theorem Rank_c (h : SliceF rSp 5 w F l xs) (hF : Sd xs) (ha : SliceF rInt 1 w G sa act) (hm : act.length <= 1000000000) : Calls Try.prog 9 #[l.v, sa.v] w fun e w' => (∃ (k : Int) (b : Bool), e = .returned (.tuple #[.int .i64 k, .bool b]) /\ (b = true ↔ Lg xs act) /\ k = if b = true then (rkW xs act xs.length 0 : Int) else 0) /\ Only [] w w' := by
 refine (v6w l sa (fun v w' => (∃ (k : Int) (b : Bool), v = .tuple #[.int .i64 k, .bool b] /\ (b = true ↔ Lg xs act) /\ k = if b = true then (rkW xs act xs.length 0 : Int) else 0) /\ Only [] w w') w ?_).mono (by rintro _ w' ⟨v, rfl, ⟨k, b, rfl, h⟩, h'⟩; exact ⟨⟨k, b, rfl, h⟩, h'⟩)
 unfold v6v
 have hl := h.len
 have hpos := hF.fo.ne
 refine (counted_c h hF).mono ?_
 rintro _ w1 ⟨⟨k0, ws, rfl, hk0, hk0', hC⟩, hO1⟩
 refine ⟨_, rfl, fun b u => (b = false ↔ Lg xs act) /\ Only [] w1 u, fun b u ⟨hb, hO⟩ => ⟨fun hbt => ⟨⟨_, _, rfl, ⟨(fun h => by cases h), fun hL => by rw [hb.2 hL] at hbt; cases hbt⟩, rfl⟩, hO1.tr0 hO⟩, fun hbf => ?_⟩, fun hc => absurd (show (l.n : Int) = 0 by simpa using hc) (by omega), fun _ => (legal_c hC.sp hF (kI ha hO1) hm).mono ?_⟩
 · have hL := hb.1 hbf
   obtain ⟨x, hx⟩ := get_at (xs := xs) (i := 0) hpos
   refine (crank_c hF hL hm xs.length 0 (hC.only hO) (kI ha (hO1.tr0 hO)) hx (by omega) hL.rt).mono ?_
   rintro _ w2 ⟨rfl, hO2⟩
   exact ⟨_, rfl, ⟨_, _, rfl, ⟨fun _ => hL, fun _ => rfl⟩, rfl⟩, (hO1.tr0 hO).tr0 hO2⟩
 · rintro _ w3 ⟨⟨r, rfl, hr⟩, hO3⟩
   refine ⟨r, rfl, ?_, hO3⟩
   rw [<- hr]
   cases r <;> simp
theorem Nth_c (h : SliceF rSp 5 w F l xs) (hF : Sd xs) (k : Int) (hm : ∀ n : Nat, (nthW xs xs.length 0 n).length <= 1000000) : Calls Try.prog 7 #[l.v, .int .i64 k] w fun e w' => (∃ (s : Sl) (b : Bool) (is : List Int), e = .returned (.tuple #[s.v, .bool b]) /\ OwnI w.heap.size w' s is /\ (b = true ↔ 0 <= k /\ k < W xs 0) /\ is = if b = true then nthW xs xs.length 0 k.toNat else []) /\ Only [] w w' := by
 refine (v5w l k (fun v w' => (∃ (s : Sl) (b : Bool) (is : List Int), v = .tuple #[s.v, .bool b] /\ OwnI w.heap.size w' s is /\ (b = true ↔ 0 <= k /\ k < W xs 0) /\ is = if b = true then nthW xs xs.length 0 k.toNat else []) /\ Only [] w w') w ?_).mono (by rintro _ w' ⟨v, rfl, ⟨k, b, is, rfl, h⟩, h'⟩; exact ⟨⟨k, b, is, rfl, h⟩, h'⟩)
 unfold v5v
 have hl := h.len
 have hpos := hF.fo.ne
 refine (counted_c h hF).mono ?_
 rintro _ w1 ⟨⟨k0, ws, rfl, hk0, hk0', hC⟩, hO1⟩
 have z1 := hO1.size
 obtain ⟨ad, a1, a2⟩ := int_at hC.ws (wsL_at hpos)
 refine ⟨_, rfl, ⟨k0, 0, none⟩, fun _ => rfl, ws, fun _ => Blk.at1 hC.blk 1 rfl, ad, fun _ => a1, _, fun _ => a2, fun hc => ⟨⟨Sl.nil, false, [], rfl, Own.nil _ _ _ _ _ _, ⟨(fun h => by cases h), fun hk => ?_⟩, rfl⟩, hO1⟩, fun hc => ?_⟩
 · rw [Bool.or_eq_true, Bool.or_eq_true] at hc
   rcases hc with (hc | hc) | hc
   · have : (l.n : Int) = 0 := by simpa using hc
     omega
   · have := of_decide_eq_true hc
     omega
   · have := of_decide_eq_true hc
     have := hk.2
     simp only [Int.ofNat_zero] at *
     omega
 · rw [Bool.or_eq_false_iff, Bool.or_eq_false_iff] at hc
   have c1 := of_decide_eq_false hc.1.2
   have c2 := of_decide_eq_false hc.2
   obtain ⟨m, rfl⟩ : ∃ m : Nat, k = m := ⟨k.toNat, by omega⟩
   obtain ⟨x, hx⟩ := get_at (xs := xs) (i := 0) hpos
   have hC' : CtB w1 k0 l ws xs (fun k => k < w1.heap.size) (fun k => k < w1.heap.size) := ⟨hC.blk, SliceF.mono rSp_ok (SliceF.inHeap rSp_ok hC.sp (by decide)) fun k hk => hk.2, SliceF.mono rInt_ok (SliceF.inHeap rInt_ok hC.ws (by decide)) fun k hk => hk.2⟩
   have hlt : m < W xs ((0 : Nat) : Int) := by omega
   refine (cput_c hF hC' (fun k hk => hk) (fun k hk => hk) xs.length 0 m (out := Sl.nil) (L := []) hx (by omega) hlt (Own.nil _ _ _ _ _ _) (Only.refl _ _) (by have := hm m; simpa using this)).mono ?_
   rintro _ w2 ⟨s2, rfl, hS2, hG2⟩
   have hO2 : Only [] w1 w2 := hG2.1.only fun k hk => by cases hk
   rw [List.nil_append] at hS2
   exact ⟨s2, rfl, ⟨s2, true, _, rfl, Own.low hS2 z1, ⟨fun _ => ⟨by omega, by simpa using hlt⟩, fun _ => rfl⟩, by rw [if_pos rfl, Int.toNat_natCast]⟩, hO1.tr0 hO2⟩
end
end Go.Proofs.Ytddfmhccaapgjaa.Con
namespace Go.Proofs.Ytddfmhccaapgjaa.Con
open Go Go.RowKit Go.Kt Go.Kt.V
set_option linter.unusedSimpArgs false
set_option linter.unusedVariables false
set_option maxRecDepth 100000
section
variable {xs : List Spo}
theorem countP_one {p : Int -> Bool} {r0 : Int} : ∀ {l : List Int}, l.Pairwise (· < ·) -> r0 ∈ l -> (∀ r, r ∈ l -> (p r = true ↔ r = r0)) -> l.countP p = 1
 | [], _, h, _ => by cases h
 | x :: l, hp, h, hi => by
  rw [List.pairwise_cons] at hp
  rw [List.countP_cons]
  by_cases hx : x = r0
  · subst hx
    rw [if_pos ((hi x (.head _)).2 rfl)]
    have : l.countP p = 0 := by
     rw [List.countP_eq_zero]
     intro r hr hpr
     have h1 := (hi r (.tail _ hr)).1 hpr
     have := hp.1 r hr
     omega
    omega
  · have h' : r0 ∈ l := by
     rw [List.mem_cons] at h
     exact h.resolve_left fun e => hx e.symm
    rw [if_neg (fun e => hx ((hi x (.head _)).1 e)), countP_one hp.2 h' fun r hr => hi r (.tail _ hr)]
theorem pick_some {V : Int -> Nat} : ∀ {l : List Int} {k : Nat}, k < sumW V l -> ∃ r k', pick V l k = some (r, k')
 | [], k, h => by simp [sumW] at h
 | x :: l, k, h => by
  rw [pick]
  by_cases hk : k < V x
  · exact ⟨_, _, if_pos hk⟩
  · rw [if_neg hk]
    exact pick_some (by rw [sumW] at h; omega)
theorem rkL_pick {A : List Int} {rc : Int -> Nat} {r0 : Int} {k' : Nat} : ∀ {l : List Int} {k c : Nat}, l.Pairwise (· < ·) -> pick (W xs) l k = some (r0, k') -> (∀ r, r ∈ l -> (r ∈ A ↔ r = r0)) -> rkL xs A false rc l c + k' = c + k + rc r0
 | [], k, c, _, h, _ => by cases h
 | x :: l, k, c, hp, h, hi => by
  rw [List.pairwise_cons] at hp
  rw [pick] at h
  have e : rkL xs A false rc (x :: l) c = if x ∈ A then c + rc x else rkL xs A false rc l (c + W xs x) := rfl
  rw [e]
  by_cases hk : k < W xs x
  · rw [if_pos hk] at h
    injection h with h
    injection h with h1 h2
    subst h1 h2
    rw [if_pos ((hi x (.head _)).2 rfl)]
    omega
  · rw [if_neg hk] at h
    have hm := (pick_mem h).1
    have hx : x ≠ r0 := fun e => by
     have := hp.1 r0 hm
     omega
    rw [if_neg (fun hA => hx ((hi x (.head _)).1 hA))]
    have := rkL_pick (rc := rc) (c := c + W xs x) hp.2 h fun r hr => hi r (.tail _ hr)
    omega
theorem digs_div {V : Int -> Nat} : ∀ (l : List Int) (k : Nat), (digs V l k).2 = k / proW V l
 | [], k => by rw [digs, proW, Nat.div_one]
 | x :: l, k => by rw [digs, proW, digs_div l k, Nat.div_div_eq_div_mul, Nat.mul_comm]
theorem rkL_digs {A : List Int} {rc : Int -> Nat} : ∀ {l : List Int} {k c : Nat}, (∀ p, p ∈ l.zip (digs (W xs) l k).1 -> rc p.1 = p.2) -> rkL xs A true rc l c + (digs (W xs) l k).2 * proW (W xs) l = c * proW (W xs) l + k
 | [], k, c, _ => by simp [rkL, digs, proW]
 | x :: l, k, c, h => by
  have e : rkL xs A true rc (x :: l) c = rkL xs A true rc l (c * W xs x + rc x) := rfl
  rw [digs] at h ⊢
  rw [List.zip_cons_cons] at h
  have hx := h _ (.head _)
  have ih := rkL_digs (l := l) (k := k) (c := c * W xs x + rc x) (A := A) fun p hp => h p (.tail _ hp)
  rw [e, proW]
  have hx : rc x = (digs (W xs) l k).2 % W xs x := hx
  rw [hx] at ih ⊢
  generalize (digs (W xs) l k).2 = q at *
  generalize proW (W xs) l = P at *
  have hq := Nat.div_add_mod q (W xs x)
  have h1 : q * P = (q / W xs x) * (W xs x * P) + (q % W xs x) * P := by
   conv => lhs; rw [<- hq]
   rw [Nat.add_mul, Nat.mul_comm (W xs x) (q / W xs x), Nat.mul_assoc]
  have h2 : (c * W xs x + q % W xs x) * P = c * (W xs x * P) + (q % W xs x) * P := by rw [Nat.add_mul, Nat.mul_assoc]
  show rkL xs A true rc l (c * W xs x + q % W xs x) + q / W xs x * (W xs x * P) = c * (W xs x * P) + k
  rw [h2] at ih
  rw [h1] at ih
  omega
theorem nth_head (f n k : Nat) : (n : Int) ∈ nthW xs f n k := by
 cases f with
 | zero => rw [nthW]; exact .head _
 | succ f => rw [nthW]; exact .head _
theorem nth_lg (hF : Sd xs) : ∀ (f n k : Nat) {s : Spo}, xs[n]? = some s -> xs.length <= n + f -> stK s.k = true -> k < W xs n -> ∀ A : List Int, (∀ x : Int, (n : Int) <= x -> x < s.en -> (x ∈ A ↔ x ∈ nthW xs f n k)) ->
  (∀ x, x ∈ nthW xs f n k -> stK (kd xs x) = true /\ (x = n ∨ ∀ t, xs[x.toNat]? = some t -> t.pa ∈ A) /\ onOk xs A x.toNat = true) /\ rkW xs A f n = k
 | 0, n, k, s, hs, hf, _, _, A, _ => by
  have := get_lt hs
  omega
 | f + 1, n, k, s, hs, hf, hst, hk, A, hA => by
  have hu := hF.fo.up n s hs
  have hW := hF.W_eq n
  have hkd := kd_at hs
  have hnA : (n : Int) ∈ A := (hA n (Int.le_refl _) hu.1).2 (nth_head _ _ _)
  have e0 : nthW xs (f + 1) n k = (n : Int) :: if kd xs n = 1 then (match pick (W xs) (regs xs n) k with
   | some (r, k') => nthW xs f r.toNat k'
   | none => []) else ((regs xs n).zip (digs (W xs) (regs xs n) k).1).flatMap fun p => nthW xs f p.1.toNat p.2 := rfl
  have e1 : rkW xs A (f + 1) n = rkL xs A (kd xs n == 2) (fun r => rkW xs A f r.toNat) (regs xs n) 0 := rfl
  have eo : onOk xs A n = if kd xs n = 2 then onC xs A n == (regs xs n).length else onC xs A n == min 1 (regs xs n).length := rfl
  have ec : onC xs A n = (regs xs n).countP fun r => decide (r ∈ A) := rfl
  have hrr : ∀ {r : Int}, r ∈ regs xs n -> _ := fun {r} h => hF.reg (n := n) (r := r) h
  have hap : (regs xs n).Pairwise fun a b => enO xs a <= b := hF.regs_apart n (regs_rise xs n) fun r hr => hr
  have hri := regs_rise xs n
  have sub : ∀ (r : Int) (d : Nat), r ∈ regs xs n -> d < W xs r -> (∀ x : Int, r <= x -> x < enO xs r -> (x ∈ A ↔ x ∈ nthW xs f r.toNat d)) ->
    (∀ x, x ∈ nthW xs f r.toNat d -> stK (kd xs x) = true /\ (∀ t, xs[x.toNat]? = some t -> t.pa ∈ A) /\ onOk xs A x.toNat = true) /\ rkW xs A f r.toNat = d := fun r d hr hd hAr => by
   obtain ⟨q, t, rfl, h2, h3, h4, h5, h6⟩ := hrr hr
   rw [Int.toNat_natCast]
   rw [Int.toNat_natCast, enO_at h2] at hAr
   obtain ⟨g1, g2⟩ := nth_lg hF f q d h2 (by omega) h4 hd A hAr
   refine ⟨fun x hx => ?_, g2⟩
   obtain ⟨a1, a2, a3⟩ := g1 x hx
   refine ⟨a1, ?_, a3⟩
   rcases a2 with rfl | a2
   · intro t' ht'
     rw [Int.toNat_natCast, h2] at ht'
     injection ht' with ht'
     rw [<- ht', h3]
     exact hnA
   · exact a2
  have inb : ∀ (r : Int) (d : Nat), r ∈ regs xs n -> ∀ x, x ∈ nthW xs f r.toNat d -> r <= x /\ x < enO xs r := fun r d hr x hx => by
   obtain ⟨q, t, rfl, h2, _⟩ := hrr hr
   rw [Int.toNat_natCast] at hx
   rw [enO_at h2]
   exact (nth_in hF f q d h2).2 x hx
  have rin : ∀ r, r ∈ regs xs n -> (n : Int) < r /\ r < enO xs r /\ enO xs r <= s.en := fun r hr => by
   obtain ⟨q, t, rfl, h2, _, _, h5, h6⟩ := hrr hr
   have := hF.fo.up q t h2
   rw [enO_at h2]
   exact ⟨by omega, this.1, hF.fo.lam q hs h2 h5 (h6 s hs)⟩
  rw [e0] at hA ⊢
  rw [e1]
  rw [hkd] at hW hA ⊢
  have hk12 : s.k = 1 ∨ s.k = 2 := by simpa [stK] using hst
  generalize hrs : regs xs n = rs at *
  have top : ∀ {L : List Int}, (∀ x, x ∈ L -> stK (kd xs x) = true /\ (∀ t, xs[x.toNat]? = some t -> t.pa ∈ A) /\ onOk xs A x.toNat = true) -> onOk xs A n = true -> ∀ x, x ∈ (n : Int) :: L -> stK (kd xs x) = true /\ (x = n ∨ ∀ t, xs[x.toNat]? = some t -> t.pa ∈ A) /\ onOk xs A x.toNat = true := fun hL ho x hx => by
   rw [List.mem_cons] at hx
   rcases hx with rfl | hx
   · exact ⟨by rw [hkd]; exact hst, .inl rfl, by rw [Int.toNat_natCast]; exact ho⟩
   · obtain ⟨a1, a2, a3⟩ := hL x hx
     exact ⟨a1, .inr a2, a3⟩
  by_cases h0 : rs.length = 0
  · have hre : rs = [] := List.eq_nil_of_length_eq_zero h0
    subst hre
    have hk0 : k = 0 := by
     rw [if_pos h0] at hW
     omega
    subst hk0
    refine ⟨?_, by cases (s.k == 2) <;> rfl⟩
    have ho : onOk xs A n = true := by
     rw [eo, ec]
     split <;> rfl
    split
    · exact top (fun x hx => by cases hx) ho
    · exact top (fun x hx => by cases hx) ho
  · rw [if_neg h0] at hW
    rcases hk12 with e | e
    · rw [e] at hW hA ⊢
      rw [if_neg (by decide)] at hW
      obtain ⟨r0, k', hp⟩ := pick_some (V := W xs) (l := rs) (k := k) (by omega)
      obtain ⟨hr0, hk'⟩ := pick_mem hp
      rw [if_pos rfl, hp] at hA ⊢
      dsimp only at hA ⊢
      have hb := rin r0 hr0
      have hone : ∀ r, r ∈ rs -> (r ∈ A ↔ r = r0) := fun r hr => by
       have hbr := rin r hr
       rw [hA r (by omega) (by omega), List.mem_cons]
       constructor
       · rintro (h | h)
         · omega
         · have h1 := inb r0 k' hr0 r h
           by_cases hlt : r = r0
           · exact hlt
           · have : r0 < r := by omega
             have h2 := List.pairwise_iff_getElem.1 hap
             obtain ⟨i, hi, rfl⟩ := List.getElem_of_mem hr0
             obtain ⟨j, hj, rfl⟩ := List.getElem_of_mem hr
             have hij : i < j := by
              refine Classical.byContradiction fun hh => ?_
              by_cases hij : i = j
              · subst hij; omega
              · have := List.pairwise_iff_getElem.1 hri j i hj hi (by omega)
                omega
             have := h2 i j hi hj hij
             omega
       · rintro rfl
         right
         obtain ⟨q, t, rfl, _⟩ := hrr hr
         rw [Int.toNat_natCast]
         exact nth_head _ _ _
      have hA0 : ∀ x : Int, r0 <= x -> x < enO xs r0 -> (x ∈ A ↔ x ∈ nthW xs f r0.toNat k') := fun x h1 h2 => by
       rw [hA x (by omega) (by omega), List.mem_cons]
       exact ⟨fun h => h.resolve_left (by omega), .inr⟩
      obtain ⟨g1, g2⟩ := sub r0 k' hr0 hk' hA0
      have hon : onOk xs A n = true := by
       rw [eo, hkd, e, if_neg (by decide), ec, countP_one hri hr0 fun r hr => by rw [decide_eq_true_eq]; exact hone r hr, beq_iff_eq]
       omega
      refine ⟨top g1 hon, ?_⟩
      have := rkL_pick (xs := xs) (A := A) (rc := fun r => rkW xs A f r.toNat) (c := 0) hri hp hone
      have e2 : ((1 : Int) == 2) = false := rfl
      rw [e2]
      rw [g2] at this
      omega
    · rw [e] at hW hA ⊢
      rw [if_pos rfl] at hW
      rw [if_neg (by decide)] at hA ⊢
      have hdl := digs_len (W xs) rs k
      have hpos : ∀ r, r ∈ rs -> 0 < W xs r := fun r hr => by rw [<- hrs] at hr; exact hF.W_reg hr
      let dg := (digs (W xs) rs k).1
      have hdg : dg = (digs (W xs) rs k).1 := rfl
      rw [<- hdg] at hA hdl ⊢
      have zp : ∀ p, p ∈ rs.zip dg -> p.1 ∈ rs /\ p.2 < W xs p.1 := fun p hp => by
       refine ⟨(List.of_mem_zip hp).1, ?_⟩
       obtain ⟨i, hi⟩ := List.getElem?_of_mem hp
       have := List.getElem?_zip_eq_some.1 hi
       exact digs_lt hpos this.1 this.2
      have hA0 : ∀ p, p ∈ rs.zip dg -> ∀ x : Int, p.1 <= x -> x < enO xs p.1 -> (x ∈ A ↔ x ∈ nthW xs f p.1.toNat p.2) := fun p hp x h1 h2 => by
       have hb := rin p.1 (zp p hp).1
       rw [hA x (by omega) (by omega), List.mem_cons, List.mem_flatMap]
       constructor
       · rintro (h | ⟨q, hq, h⟩)
         · omega
         · have h3 := inb q.1 q.2 (zp q hq).1 x h
           have hqp : q = p := by
            obtain ⟨i, hi⟩ := List.getElem?_of_mem hp
            obtain ⟨j, hj⟩ := List.getElem?_of_mem hq
            have hi' := List.getElem?_zip_eq_some.1 hi
            have hj' := List.getElem?_zip_eq_some.1 hj
            have hil := (List.getElem?_eq_some_iff.1 hi'.1).1
            have hjl := (List.getElem?_eq_some_iff.1 hj'.1).1
            have ei : rs[i] = p.1 := by have := hi'.1; rw [List.getElem?_eq_getElem hil] at this; exact Option.some.inj this
            have ej : rs[j] = q.1 := by have := hj'.1; rw [List.getElem?_eq_getElem hjl] at this; exact Option.some.inj this
            have hij : i = j := by
             refine Classical.byContradiction fun hh => ?_
             rcases Nat.lt_or_gt_of_ne hh with hh | hh
             · have := List.pairwise_iff_getElem.1 hap i j hil hjl hh
               rw [ei, ej] at this
               omega
             · have := List.pairwise_iff_getElem.1 hap j i hjl hil hh
               rw [ei, ej] at this
               omega
            subst hij
            rw [hi] at hj
            exact (Option.some.inj hj).symm
           rw [hqp] at h
           exact h
       · intro h
         exact .inr ⟨p, hp, h⟩
      have hsub := fun p hp => sub p.1 p.2 (zp p hp).1 (zp p hp).2 (hA0 p hp)
      have hon : onOk xs A n = true := by
       rw [eo, hkd, e, if_pos rfl, ec, beq_iff_eq, List.countP_eq_length]
       intro r hr
       rw [decide_eq_true_eq]
       obtain ⟨i, hi, rfl⟩ := List.getElem_of_mem hr
       have hb := rin _ hr
       have hz : (rs[i], dg[i]'(by omega)) ∈ rs.zip dg := List.mem_of_getElem? (List.getElem?_zip_eq_some.2 ⟨List.getElem?_eq_getElem hi, List.getElem?_eq_getElem (by omega)⟩)
       refine (hA0 _ hz _ (Int.le_refl _) hb.2.1).2 ?_
       obtain ⟨q, t, hq, _⟩ := hrr hr
       rw [hq, Int.toNat_natCast]
       exact nth_head _ _ _
      refine ⟨top (fun x hx => ?_) hon, ?_⟩
      · obtain ⟨p, hp, hx⟩ := List.mem_flatMap.1 hx
        exact (hsub p hp).1 x hx
      · have := rkL_digs (xs := xs) (A := A) (rc := fun r => rkW xs A f r.toNat) (l := rs) (k := k) (c := 0) fun p hp => (hsub p hp).2
        rw [digs_div, Nat.div_eq_of_lt (by omega), Nat.zero_mul, Nat.add_zero, Nat.zero_add] at this
        exact this
theorem nth_top (hF : Sd xs) {k : Nat} (hk : k < W xs 0) : Lg xs (nthW xs xs.length 0 k) /\ rkW xs (nthW xs xs.length 0 k) xs.length 0 = k := by
 obtain ⟨s, hs, hk1⟩ := hF.rt
 have hu := hF.fo.up 0 s hs
 obtain ⟨h1, h2⟩ := nth_lg hF xs.length 0 k hs (by omega) (by rw [hk1]; rfl) (by exact_mod_cast hk) _ fun x _ _ => Iff.rfl
 obtain ⟨h3, h4⟩ := nth_in hF xs.length 0 k hs
 refine ⟨⟨by exact_mod_cast nth_head (xs := xs) xs.length 0 k, h3, fun x hx => ?_⟩, h2⟩
 obtain ⟨a1, a2, a3⟩ := h1 x hx
 have := h4 x hx
 exact ⟨by omega, by omega, a1, a2.imp (fun h => by simpa using h) id, a3⟩
end
end Go.Proofs.Ytddfmhccaapgjaa.Con
namespace Go.Proofs.Ytddfmhccaapgjaa.Con
open Go Go.RowKit Go.Kt Go.Kt.V Go.Proofs.Ytddfmhccaapgjaa.Vc
set_option linter.unusedSimpArgs false
set_option linter.unusedVariables false
set_option maxHeartbeats 1600000
set_option maxRecDepth 100000
theorem lit1o (u : World) {a : Int} (ha : InI a) : ∃ y w1, (Instr.buildSlice 30 1 #[.mk 0 (.int .i64 a)]).run Try.prog u = .ok (Sl.v y) w1 /\ Only [] u w1 /\ OwnI u.heap.size w1 y [a] := by
 obtain ⟨y, w1, k1, k2, k3, _⟩ := build_own (P := Try.prog) (t := 30) (e := 3) (i := Try.t3) (w := u) (F := fun _ => False) (vs := [.int .i64 a]) (parts := #[.mk 0 (.int .i64 a)]) (len := 1) (xs := [a]) (r := rInt) (size := 1) (by kernel_rfl) (by kernel_rfl) rfl rfl (by decide) rfl rfl (by decide) (by decide) rInt_ok ⟨⟨rfl, rfl, ha⟩, trivial⟩
 exact ⟨y, w1, k1, k3, k2⟩
section
variable {w : World} {F G : Nat -> Prop} {l sa : Sl} {xs : List Spo} {act : List Int}
theorem addOwn {u : World} {B C : Nat} {s y : Sl} {is js : List Int} (h : OwnI B u s is) (hy : OwnI C u y js) (hB : B <= u.heap.size) (hd : ∀ g, s.a = some ⟨g, 0, none⟩ -> y.a ≠ some ⟨g, 0, none⟩) (hm : is.length + js.length <= 1000000000) :
  ∃ s' w2, (Builtin.append_ #[30, 30] 30 #[Sl.v s, Sl.v y]).run Try.prog u = .ok (Sl.v s') w2 /\ OwnI B w2 s' (is ++ js) /\ OnlyP (fun k => B <= k) u w2 := by
 obtain ⟨s', w2, g1, g2, gs, g3, g4, g5⟩ := app_own (P := Try.prog) (t := 30) (ty := 30) (e := 3) (i := Try.t3) (bytes := 8) (size := 1) (r := rInt) (F := fun _ => True) (y := y) (ys := js) (by kernel_rfl) (by kernel_rfl) rfl rfl rfl rfl rInt_ok (h.mono rInt_ok fun k hk => trivial) ((hy.slice rInt_ok).mono rInt_ok fun k hk => ⟨trivial, fun e => hd k e (hk.elim False.elim fun h => h.2)⟩) hB (by omega) (by decide)
 exact ⟨s', w2, g1, OwnI.of g2, g3.p fun g hg => .inl (g4 g hg).2.1⟩
theorem rways_c (hF : Sd xs) : ∀ (f n : Nat) {w : World} {x : Spo}, SliceF rSp 5 w F l xs -> xs[n]? = some x -> xs.length <= n + f ->
  Calls Try.prog 24 #[l.v, .int .i64 (n : Int)] w fun e w' => e = .returned (.int .i64 (W xs n : Int)) /\ Only [] w w'
 | 0, n, w, x, _, hx, hf => by
  have := get_lt hx
  omega
 | f + 1, n, w, x, h, hx, hf => by
  refine ret (v94w l n (fun v w' => v = .int .i64 (W xs n : Int) /\ Only [] w w') w ?_)
  unfold v94v
  have hle := hF.le
  refine (regionsr_c h hF n).mono ?_
  rintro _ w0 ⟨⟨s1, rfl, hS1⟩, hO1⟩
  have hl1 := hS1.len
  have hrl := regs_len xs n
  have hweq := hF.W_eq n
  have hsum := hF.W_sum hx
  have hrr : ∀ {r : Int}, r ∈ regs xs n -> _ := fun {r} h => hF.reg (n := n) (r := r) h
  have hpos : ∀ r, r ∈ regs xs n -> 0 < W xs r := fun r hr => hF.W_reg hr
  rw [kd_at hx] at hweq
  have hst : ∀ t, sumW (W xs) ((regs xs n).take t) <= sumW (W xs) (regs xs n) := fun t => sumW_take _ _ t
  have hpt : ∀ t, proW (W xs) ((regs xs n).take t) <= proW (W xs) (regs xs n) := fun t => proW_take t hpos
  generalize regs xs n = rs at *
  refine ⟨s1, rfl, fun hc => ⟨?_, hO1⟩, fun hc => ?_⟩
  · have hc : (s1.n : Int) = 0 := by simpa using hc
    rw [hweq, if_pos (by omega)]
    rfl
  · have hc : (s1.n : Int) ≠ 0 := by simpa using hc
    rw [if_neg (by omega)] at hweq
    refine ⟨fun kv su pr i u => ∃ t : Nat, i = (t : Int) /\ kv + t = rs.length /\ t <= rs.length /\ su = (sumW (W xs) (rs.take t) : Int) /\ pr = (proW (W xs) (rs.take t) : Int) /\ Only [] w0 u, rs.length, ⟨0, rfl, by omega, Nat.zero_le _, by simp [sumW], by simp [proW], Only.refl _ _⟩, ?_⟩
    rintro kv _ _ _ u ⟨t, rfl, hkv, ht, rfl, rfl, hO⟩
    have o := hO1.tr0 hO
    refine ⟨fun hc1 => ?_, fun hc1 => ?_⟩
    · have hc1 := of_decide_eq_true hc1
      have htl : t < rs.length := by omega
      obtain ⟨ad, a1, a2⟩ := int_at (wp_int hS1 hO).sl (List.getElem?_eq_getElem htl)
      have hmem := List.getElem_mem htl
      obtain ⟨q, y, hq, hy, _, _, hnq, _⟩ := hrr hmem
      have htk : rs.take (t + 1) = rs.take t ++ [rs[t]] := by rw [List.take_add_one, List.getElem?_eq_getElem htl]; rfl
      have h1 := hst (t + 1)
      have h2 := hpt (t + 1)
      rw [htk, sumW_snoc, hq] at h1
      rw [htk, proW_snoc, hq] at h2
      refine ⟨ad, a1, _, a2, ?_⟩
      rw [hq] at htk ⊢
      refine (rways_c hF f q (sp_u h o) hy (by omega)).mono ?_
      rintro _ w2 ⟨rfl, hO2⟩
      refine ⟨_, rfl, kv - 1, by omega, t + 1, by rw [wr' (by omega) (by omega)]; rfl, by omega, by omega, ?_, ?_, hO.tr0 hO2⟩
      · rw [htk, sumW_snoc, wr' (by omega) (by omega)]
        omega
      · have e : (proW (W xs) (rs.take t) : Int) * (W xs (q : Int) : Int) = ((proW (W xs) (rs.take t) * W xs (q : Int) : Nat) : Int) := by rw [Int.natCast_mul]
        rw [htk, proW_snoc, e, wr' (by omega) (by omega)]
    · have hc1 := of_decide_eq_false hc1
      have : t = rs.length := by omega
      subst this
      obtain ⟨ad, a1, a2, _⟩ := sp_at (sp_u h o) hx
      rw [List.take_of_length_le (Nat.le_refl _)]
      refine ⟨ad, a1, x.k, a2.part 0 fun i v hi => one_part hi rfl, fun hk => ⟨?_, o⟩, fun hk => ⟨?_, o⟩⟩
      · rw [hweq, if_pos (by simpa using hk)]
      · rw [hweq, if_neg (by simpa using hk)]
theorem rnth_c (hF : Sd xs) : ∀ (f n k : Nat) {w : World} {x : Spo}, SliceF rSp 5 w F l xs -> xs[n]? = some x -> xs.length <= n + f -> k < W xs n ->
  Calls Try.prog 20 #[l.v, .int .i64 (n : Int), .int .i64 (k : Int)] w fun e w' => (∃ s : Sl, e = .returned s.v /\ OwnI w.heap.size w' s (nthW xs f n k)) /\ Only [] w w'
 | 0, n, k, w, x, _, hx, hf, _ => by
  have := get_lt hx
  omega
 | f + 1, n, k, w, x, h, hx, hf, hk => by
  have hle := hF.le
  have hnl := get_lt hx
  have hlen := nth_len hF (f + 1) n k hx
  refine (v92w l n k (fun v w' => (∃ s : Sl, v = s.v /\ OwnI w.heap.size w' s (nthW xs (f + 1) n k)) /\ Only [] w w') w ?_).mono (by rintro _ w' ⟨v, rfl, ⟨s, rfl, h⟩, h'⟩; exact ⟨⟨s, rfl, h⟩, h'⟩)
  unfold v92v
  have hwle := hF.W_le hx
  have e0 : nthW xs (f + 1) n k = (n : Int) :: if kd xs n = 1 then (match pick (W xs) (regs xs n) k with
   | some (r, k') => nthW xs f r.toNat k'
   | none => []) else ((regs xs n).zip (digs (W xs) (regs xs n) k).1).flatMap fun p => nthW xs f p.1.toNat p.2 := rfl
  rw [e0, kd_at hx] at hlen ⊢
  obtain ⟨s0, w0, m1, m2, m3⟩ := lit1o w (a := (n : Int)) ⟨by omega, by omega⟩
  have z0 := m2.size
  refine ⟨s0, w0, m1, (regionsr_c (sp_u h m2) hF n).mono ?_⟩
  rintro _ w1 ⟨⟨s1, rfl, hS1⟩, hO1⟩
  have z1 := hO1.size
  have o1 := m2.tr0 hO1
  have h01 : OwnI w.heap.size w1 s0 [(n : Int)] := wp_int m3 hO1
  have b0 : ∀ {g : Nat}, s0.a = some ⟨g, 0, none⟩ -> w.heap.size <= g /\ g < w0.heap.size := fun e => m3.blk e
  obtain ⟨ad, a1, a2, _⟩ := sp_at (sp_u h o1) hx
  have hl1 := hS1.len
  have hrl := regs_len xs n
  have hrr : ∀ {r : Int}, r ∈ regs xs n -> _ := fun {r} h => hF.reg (n := n) (r := r) h
  have hpos : ∀ r, r ∈ regs xs n -> 0 < W xs r := fun r hr => hF.W_reg hr
  have hrle : ∀ r, r ∈ regs xs n -> W xs r <= 4611686018427387904 := fun r hr => by
   obtain ⟨q, t, rfl, h2, _⟩ := hrr hr
   exact hF.W_le h2
  generalize regs xs n = rs at *
  have rat : ∀ {u : World} {t : Nat} {r : Int}, rs[t]? = some r -> Only [] w1 u -> ∃ (q : Nat) (y : Spo) (ad : Addr), r = q /\ xs[q]? = some y /\ n < q /\ SlAt s1 (t : Int) 1 ad /\ Cells u ad [.int .i64 r] := fun {u t r} ht hu => by
   obtain ⟨q, y, rfl, hy, _, _, hnq, _⟩ := hrr (List.mem_of_getElem? ht)
   obtain ⟨ad, b1, b2⟩ := int_at (wp_int hS1 hu).sl ht
   exact ⟨q, y, ad, rfl, hy, hnq, b1, b2⟩
  refine ⟨s1, rfl, ad, a1, x.k, a2.part 0 fun i v hi => one_part hi rfl, fun hk1 => ?_, fun hk1 => ?_⟩
  · have hk1 : x.k = 1 := by simpa using hk1
    rw [if_pos hk1] at hlen ⊢
    refine ⟨fun kv i1 i u => ∃ t k' : Nat, i = (t : Int) /\ i1 = (k' : Int) /\ kv + t = rs.length /\ t <= rs.length /\ k' <= k /\ pick (W xs) rs k = pick (W xs) (rs.drop t) k' /\ Only [] w1 u, rs.length, ⟨0, k, rfl, rfl, by omega, Nat.zero_le _, Nat.le_refl _, by rw [List.drop_zero], Only.refl _ _⟩, ?_⟩
    rintro kv _ _ u ⟨t, k', rfl, rfl, hkv, ht, hkk, hpk, hO⟩
    refine ⟨fun hc => ?_, fun hc => ?_⟩
    · have hc := of_decide_eq_true hc
      have htl : t < rs.length := by omega
      have htr := List.getElem?_eq_getElem htl
      obtain ⟨q, y, ad, hq, hy, hnq, b1, b2⟩ := rat htr hO
      have hpd : pick (W xs) (rs.drop t) k' = if k' < W xs rs[t] then some (rs[t], k') else pick (W xs) (rs.drop (t + 1)) (k' - W xs rs[t]) := by
       rw [List.drop_eq_getElem_cons htl, pick]
      have hle2 := hrle _ (List.getElem_mem htl)
      rw [hpd] at hpk
      refine ⟨ad, b1, _, b2, ?_⟩
      rw [hq] at hpk hle2 ⊢
      refine (rways_c hF xs.length q (sp_u h (o1.tr0 hO)) hy (by omega)).mono ?_
      rintro _ w3 ⟨rfl, hO3⟩
      have o3 := hO.tr0 hO3
      obtain ⟨_, _, ad', _, _, _, c1, c2⟩ := rat htr o3
      refine ⟨_, rfl, fun hlt => ⟨ad', c1, _, c2, ?_⟩, fun hlt => ⟨kv - 1, by omega, t + 1, k' - W xs (q : Int), by rw [wr' (by omega) (by omega)]; rfl, ?_, by omega, by omega, by omega, ?_, o3⟩⟩
      · have hlt := of_decide_eq_true hlt
        have hlt' : k' < W xs (q : Int) := by omega
        rw [if_pos hlt'] at hpk
        rw [hpk] at hlen ⊢
        dsimp only at hlen ⊢
        rw [Int.toNat_natCast] at hlen ⊢
        rw [List.length_cons] at hlen
        rw [hq]
        refine (rnth_c hF f q k' (sp_u h (o1.tr0 o3)) hy (by omega) hlt').mono ?_
        rintro _ w4 ⟨⟨s4, rfl, hS4⟩, hO4⟩
        have z3 := hO3.size
        have z4 := hO4.size
        have zO := hO.size
        have o4 := o3.tr0 hO4
        obtain ⟨s5, w5, p1, p2, p3⟩ := addOwn (wp_int h01 o4) hS4 (by have := o1.size; omega) (fun g e1 e2 => by
         have := b0 e1
         have := (hS4.blk e2).1
         dsimp only at this
         omega) (by simp only [List.length_singleton]; omega)
        exact ⟨s4, rfl, s5, w5, p1, ⟨s5, rfl, p2⟩, ((o1.tr0 o4).trP p3).only fun k hk => hk⟩
      · have hlt := of_decide_eq_false hlt
        rw [wr' (by omega) (by omega)]
        omega
      · have hlt := of_decide_eq_false hlt
        rw [if_neg (by omega)] at hpk
        exact hpk
    · have hc := of_decide_eq_false hc
      rw [List.drop_eq_nil_of_le (by omega), pick] at hpk
      rw [hpk]
      exact ⟨⟨s0, rfl, wp_int h01 hO⟩, o1.tr0 hO⟩
  · have hk1 : x.k ≠ 1 := by simpa using hk1
    rw [if_neg hk1] at hlen ⊢
    have hdgl := digs_len (W xs) rs k
    let dg := (digs (W xs) rs k).1
    have hdg : dg = (digs (W xs) rs k).1 := rfl
    rw [<- hdg] at hlen hdgl ⊢
    have hdrop : ∀ m, (digs (W xs) (rs.drop m) k).1 = dg.drop m := by
     have : ∀ (V : Int -> Nat) (l : List Int) (k m : Nat), (digs V (l.drop m) k).1 = (digs V l k).1.drop m := by
      intro V l
      induction l with
      | nil => intro k m; simp [digs]
      | cons a l ih =>
       intro k m
       cases m with
       | zero => rfl
       | succ m => rw [List.drop_succ_cons, digs, List.drop_succ_cons]; exact ih k m
     exact this (W xs) rs k
    let Z : Nat -> List Int := fun m => ((rs.drop m).zip (dg.drop m)).flatMap fun p => nthW xs f p.1.toNat p.2
    have hZ : ∀ m r d, rs[m]? = some r -> dg[m]? = some d -> Z m = nthW xs f r.toNat d ++ Z (m + 1) := fun m r d h1 h2 => by
     obtain ⟨hm1, e1⟩ := List.getElem?_eq_some_iff.1 h1
     obtain ⟨hm2, e2⟩ := List.getElem?_eq_some_iff.1 h2
     show ((rs.drop m).zip (dg.drop m)).flatMap _ = _
     rw [List.drop_eq_getElem_cons hm1, List.drop_eq_getElem_cons hm2, List.zip_cons_cons, List.flatMap_cons, e1, e2]
    have hZ0 : Z 0 = (rs.zip dg).flatMap fun p => nthW xs f p.1.toNat p.2 := rfl
    have hZle : ∀ m, m <= rs.length -> (Z m).length <= (Z 0).length := by
     intro m
     induction m with
     | zero => intro _; exact Nat.le_refl _
     | succ m ih =>
      intro hm
      have h1 := ih (by omega)
      have h2 := hZ m _ _ (List.getElem?_eq_getElem (show m < rs.length by omega)) (List.getElem?_eq_getElem (show m < dg.length by omega))
      rw [h2, List.length_append] at h1
      omega
    rw [<- hZ0] at hlen ⊢
    rw [List.length_cons] at hlen
    refine ⟨fun kv i6 q i u => ∃ (m k' : Nat), i = (m : Int) - 1 /\ i6 = (k' : Int) /\ kv = m /\ m <= rs.length /\ k' = (digs (W xs) (rs.drop m) k).2 /\ OwnI w1.heap.size u q (Z m) /\ Only [] w1 u, rs.length, ⟨rs.length, k, by rw [wr' (by omega) (by omega)]; omega, rfl, rfl, Nat.le_refl _, by rw [List.drop_length]; rfl, by
     have : Z rs.length = [] := by show ((rs.drop rs.length).zip _).flatMap _ = _; rw [List.drop_length]; rfl
     rw [this]; exact Own.nil _ _ _ _ _ _, Only.refl _ _⟩, ?_⟩
    rintro kv _ q _ u ⟨m, k', rfl, rfl, hkv, hml, hk', hq, hO⟩
    have zu := hO.size
    refine ⟨fun hc => ?_, fun hc => ?_⟩
    · have hc := of_decide_eq_true hc
      obtain ⟨m, rfl⟩ : ∃ m', m = m' + 1 := ⟨m - 1, by omega⟩
      have em : ((m + 1 : Nat) : Int) - 1 = (m : Int) := by omega
      rw [em]
      have hml' : m < rs.length := by omega
      have htr := List.getElem?_eq_getElem hml'
      have htd := List.getElem?_eq_getElem (show m < dg.length by omega)
      obtain ⟨q1, y, ad, hq1, hy, hnq, b1, b2⟩ := rat htr hO
      have hwp := hpos _ (List.getElem_mem hml')
      have hk'le : k' <= k := by rw [hk']; exact digs_le _ _ _
      have hdgm : digs (W xs) (rs.drop m) k = (k' % W xs rs[m] :: (digs (W xs) (rs.drop (m + 1)) k).1, k' / W xs rs[m]) := by
       rw [List.drop_eq_getElem_cons hml', digs, <- hk']
      have hdm : dg[m]'(by omega) = k' % W xs rs[m] := by
       have h1 := hdrop m
       rw [hdgm] at h1
       have h2 := congrArg List.head? h1
       rw [List.head?_drop, htd] at h2
       exact (Option.some.inj h2).symm
      have hz1 := hZ m _ _ htr htd
      have hzl := hZle m (by omega)
      have hzl2 := hZle (m + 1) (by omega)
      rw [hdm] at hz1
      rw [hz1, List.length_append] at hzl
      refine ⟨ad, b1, _, b2, ?_⟩
      rw [hq1] at hdgm hz1 hwp hzl ⊢
      rw [Int.toNat_natCast] at hz1 hzl
      refine (rways_c hF xs.length q1 (sp_u h (o1.tr0 hO)) hy (by omega)).mono ?_
      rintro _ w7 ⟨rfl, hO7⟩
      have o7 := hO.tr0 hO7
      have z7 := hO7.size
      refine ⟨_, rfl, ad, b1, fun w8 hO8 => ?_⟩
      have o8 := o7.tr0 hO8
      have z8 := hO8.size
      obtain ⟨_, _, ad', _, _, _, c1, c2⟩ := rat htr o8
      obtain rfl := SlAt.uniq b1 c1
      rw [hq1] at c2
      have hmod : (k' : Int).tmod (W xs (q1 : Int) : Int) = ((k' % W xs (q1 : Int) : Nat) : Int) := rfl
      have hdiv : (k' : Int).tdiv (W xs (q1 : Int) : Int) = ((k' / W xs (q1 : Int) : Nat) : Int) := rfl
      have hdl2 : k' / W xs (q1 : Int) <= k' := Nat.div_le_self _ _
      refine ⟨_, c2, by omega, ?_⟩
      rw [hmod]
      refine (rnth_c hF f q1 _ (sp_u h (o1.tr0 o8)) hy (by omega) (Nat.mod_lt _ hwp)).mono ?_
      rintro _ w9 ⟨⟨s9, rfl, hS9⟩, hO9⟩
      have z9 := hO9.size
      have o9 := o8.tr0 hO9
      obtain ⟨s10, w10, p1, p2, p3⟩ := addOwn hS9 (wp_int hq ((hO7.tr0 hO8).tr0 hO9)) (by omega) (fun g e1 e2 => by
       have := (hS9.blk e1).1
       have := (hq.blk e2).2
       dsimp only at *
       omega) (by omega)
      refine ⟨s9, rfl, s10, w10, p1, by omega, m, by omega, m, _, by rw [wr' (by omega) (by omega)], by rw [hdiv, wr' (Int.le_trans (by decide) (Int.natCast_nonneg _)) (Int.le_trans (Int.ofNat_le.2 hdl2) (by omega))], rfl, by omega, by rw [hdgm], by rw [hz1]; exact Own.low p2 (by omega), (o9.trP (p3.mono (G := fun k => w1.heap.size <= k) fun k _ hk => by omega)).only fun k hk => hk⟩
    · have hc := of_decide_eq_false hc
      have hm0 : m = 0 := by omega
      subst hm0
      obtain ⟨s5, w5, p1, p2, p3⟩ := addOwn (wp_int h01 hO) hq (by omega) (fun g e1 e2 => by
       have := b0 e1
       have := (hq.blk e2).1
       dsimp only at this
       omega) (by simp only [List.length_singleton]; omega)
      exact ⟨s5, w5, p1, ⟨s5, rfl, p2⟩, ((o1.tr0 hO).trP p3).only fun k hk => hk⟩
theorem rrank_c (hF : Sd xs) (hL : Lg xs act) (hm : act.length <= 1000000000) : ∀ (f n : Nat) {w : World} {x : Spo}, SliceF rSp 5 w F l xs -> SliceF rInt 1 w G sa act -> xs[n]? = some x -> xs.length <= n + f -> (n : Int) ∈ act ->
  Calls Try.prog 23 #[l.v, .int .i64 (n : Int), sa.v] w fun e w' => e = .returned (.int .i64 (rkW xs act f n : Int)) /\ Only [] w w'
 | 0, n, w, x, _, _, hx, hf, _ => by
  have := get_lt hx
  omega
 | f + 1, n, w, x, h, ha, hx, hf, hn => by
  have hle := hF.le
  refine ret (v93w l n sa (fun v w' => v = .int .i64 (rkW xs act (f + 1) n : Int) /\ Only [] w w') w ?_)
  unfold v93v
  refine (regionsr_c h hF n).mono ?_
  rintro _ w0 ⟨⟨s1, rfl, hS1⟩, hO1⟩
  have hl1 := hS1.len
  have hrl := regs_len xs n
  have hrr : ∀ {r : Int}, r ∈ regs xs n -> _ := fun {r} h => hF.reg (n := n) (r := r) h
  have hpos : ∀ r, r ∈ regs xs n -> 0 < W xs r := fun r hr => hF.W_reg hr
  have hpar := hL.on_par hn
  have hsum := hF.W_sum hx
  have hst : ∀ t, sumW (W xs) ((regs xs n).take t) <= sumW (W xs) (regs xs n) := fun t => sumW_take _ _ t
  have hpt : ∀ t, proW (W xs) ((regs xs n).take t) <= proW (W xs) (regs xs n) := fun t => proW_take t hpos
  have e0 : rkW xs act (f + 1) n = rkL xs act (kd xs n == 2) (fun r => rkW xs act f r.toNat) (regs xs n) 0 := rfl
  rw [kd_at hx] at e0 hpar
  have hrec : ∀ r, r ∈ regs xs n -> r ∈ act -> rkW xs act f r.toNat < W xs r := fun r hr hra => by
   obtain ⟨q, t, rfl, _, _, _, h5, _⟩ := hF.reg hr
   rw [Int.toNat_natCast]
   exact rk_lt hF hL f q (by omega) hra
  rw [e0]
  generalize regs xs n = rs at *
  let rc : Int -> Nat := fun r => rkW xs act f r.toNat
  let Iv : Nat -> Int -> Prop := fun t k => if x.k = 2 then k = (rkL xs act true rc (rs.take t) 0 : Int) else k = (sumW (W xs) (rs.take t) : Int) /\ rkL xs act false rc rs 0 = rkL xs act false rc (rs.drop t) (sumW (W xs) (rs.take t))
  have hkp : ∀ t, x.k = 2 -> rkL xs act true rc (rs.take t) 0 < proW (W xs) (rs.take t) := fun t hk => by
   have := rkL_par (act := act) (rec := rc) (l := rs.take t) 0 fun r hr => hrec r (List.mem_of_mem_take hr) (hpar hk r (List.mem_of_mem_take hr))
   simpa using this
  refine ⟨s1, rfl, fun kv k i u => ∃ t : Nat, i = (t : Int) /\ kv + t = rs.length /\ t <= rs.length /\ Iv t k /\ Only [] w0 u, rs.length, ⟨0, rfl, by omega, Nat.zero_le _, ?_, Only.refl _ _⟩, ?_⟩
  · show if x.k = 2 then _ else _
    split
    · simp [rkL]
    · simp [sumW]
  rintro kv k _ u ⟨t, rfl, hkv, ht, hI, hO⟩
  have o := hO1.tr0 hO
  refine ⟨fun hc => ?_, fun hc => ⟨?_, o⟩⟩
  · have hc := of_decide_eq_true hc
    have htl : t < rs.length := by omega
    have hmem := List.getElem_mem htl
    obtain ⟨ad, a1, a2⟩ := int_at (wp_int hS1 hO).sl (List.getElem?_eq_getElem htl)
    obtain ⟨q, y, hq, hy, _, _, hnq, _⟩ := hrr hmem
    have htk : rs.take (t + 1) = rs.take t ++ [rs[t]] := by rw [List.take_add_one, List.getElem?_eq_getElem htl]; rfl
    refine ⟨fun k u => Iv (t + 1) k /\ Only [] w0 u, fun k u ⟨h1, h2⟩ => ⟨kv - 1, by omega, t + 1, by rw [wr' (by omega) (by omega)]; rfl, by omega, by omega, h1, h2⟩, ad, a1, _, a2, ?_⟩
    have rat : ∀ {v : World}, Only [] w0 v -> Cells v ad [.int .i64 (q : Int)] := fun hv => by
     obtain ⟨ad', c1, c2⟩ := int_at (wp_int hS1 hv).sl (List.getElem?_eq_getElem htl)
     obtain rfl := SlAt.uniq a1 c1
     rw [hq] at c2
     exact c2
    rw [hq] at htk ⊢
    refine (rways_c hF xs.length q (sp_u h o) hy (by omega)).mono ?_
    rintro _ w3 ⟨rfl, hO3⟩
    have o3 := hO.tr0 hO3
    refine ⟨_, rfl, ad, a1, _, rat o3, (hasr_c (kI ha (hO1.tr0 o3)) _ (by omega)).mono ?_⟩
    rintro _ u3 ⟨rfl, hu⟩
    obtain rfl : w3 = u3 := hu.symm
    have o3' := hO1.tr0 o3
    obtain ⟨ad1, b1, b2, _⟩ := sp_at (sp_u h o3') hx
    refine ⟨_, rfl, ad1, b1, x.k, b2.part 0 fun i v hi => one_part hi rfl, fun hk => ⟨ad, a1, _, rat o3, ?_⟩, fun hk => ⟨fun hb => ⟨ad, a1, _, rat o3, ?_⟩, fun hb => ?_⟩⟩
    · have hk : x.k = 2 := by simpa using hk
      have hI : k = (rkL xs act true rc (rs.take t) 0 : Int) := by
       have : if x.k = 2 then k = (rkL xs act true rc (rs.take t) 0 : Int) else _ := hI
       rwa [if_pos hk] at this
      have hqa : (q : Int) ∈ act := by
       rw [<- hq]
       exact hpar hk _ hmem
      refine (rrank_c hF hL hm f q (sp_u h o3') (kI ha o3') hy (by omega) hqa).mono ?_
      rintro _ w5 ⟨rfl, hO5⟩
      refine ⟨_, rfl, ?_, o3.tr0 hO5⟩
      show if x.k = 2 then _ else _
      rw [if_pos hk, htk, rkL_snoc, hI]
      have h1 := hkp (t + 1) hk
      rw [htk, rkL_snoc] at h1
      have h2 := hpt (t + 1)
      rw [htk] at h2
      have e1 : ((rkL xs act true rc (rs.take t) 0 : Nat) : Int) * (W xs (q : Int) : Int) = ((rkL xs act true rc (rs.take t) 0 * W xs (q : Int) : Nat) : Int) := by rw [Int.natCast_mul]
      have e2 : rc (q : Int) = rkW xs act f q := by show rkW xs act f ((q : Int).toNat) = _; rw [Int.toNat_natCast]
      rw [e2] at h1
      rw [e1, e2]
      generalize rkL xs act true rc (rs.take t) 0 * W xs (q : Int) = A at *
      rw [wr' (x := (A : Int)) (by omega) (by omega), wr' (by omega) (by omega)]
      omega
    · have hk : x.k ≠ 2 := by simpa using hk
      have hb := of_decide_eq_true hb
      obtain ⟨hI1, hI2⟩ : k = (sumW (W xs) (rs.take t) : Int) /\ rkL xs act false rc rs 0 = rkL xs act false rc (rs.drop t) (sumW (W xs) (rs.take t)) := by
       have : if x.k = 2 then k = (rkL xs act true rc (rs.take t) 0 : Int) else _ := hI
       rwa [if_neg hk] at this
      have hlt := hrec _ hmem (by rw [hq]; exact hb)
      rw [hq] at hlt
      refine (rrank_c hF hL hm f q (sp_u h o3') (kI ha o3') hy (by omega) hb).mono ?_
      rintro _ w6 ⟨rfl, hO6⟩
      refine ⟨_, rfl, ?_, o3'.tr0 hO6⟩
      have ek : (x.k == 2) = false := by simpa using hk
      have h1 := hst (t + 1)
      rw [htk, sumW_snoc] at h1
      rw [Int.toNat_natCast] at hlt
      rw [ek, wr' (by omega) (by omega)]
      have : rkL xs act false rc rs 0 = sumW (W xs) (rs.take t) + rkW xs act f q := by
       rw [hI2, List.drop_eq_getElem_cons htl]
       have e : rkL xs act false rc (rs[t] :: rs.drop (t + 1)) (sumW (W xs) (rs.take t)) = if rs[t] ∈ act then sumW (W xs) (rs.take t) + rc rs[t] else rkL xs act false rc (rs.drop (t + 1)) (sumW (W xs) (rs.take t) + W xs rs[t]) := rfl
       rw [e, hq, if_pos hb]
       show _ + rkW xs act f ((q : Int).toNat) = _
       rw [Int.toNat_natCast]
      have this' : rkL xs act false (fun r => rkW xs act f r.toNat) rs 0 = sumW (W xs) (rs.take t) + rkW xs act f q := this
      rw [this', hI1]
      congr 1
    · have hk : x.k ≠ 2 := by simpa using hk
      have hb := of_decide_eq_false hb
      obtain ⟨hI1, hI2⟩ : k = (sumW (W xs) (rs.take t) : Int) /\ rkL xs act false rc rs 0 = rkL xs act false rc (rs.drop t) (sumW (W xs) (rs.take t)) := by
       have : if x.k = 2 then k = (rkL xs act true rc (rs.take t) 0 : Int) else _ := hI
       rwa [if_neg hk] at this
      have h1 := hst (t + 1)
      rw [htk, sumW_snoc] at h1
      refine ⟨?_, o3⟩
      show if x.k = 2 then _ else _
      rw [if_neg hk, htk, sumW_snoc, hI1, wr' (by omega) (by omega)]
      refine ⟨by omega, ?_⟩
      rw [hI2, List.drop_eq_getElem_cons htl]
      have e : rkL xs act false rc (rs[t] :: rs.drop (t + 1)) (sumW (W xs) (rs.take t)) = if rs[t] ∈ act then sumW (W xs) (rs.take t) + rc rs[t] else rkL xs act false rc (rs.drop (t + 1)) (sumW (W xs) (rs.take t) + W xs rs[t]) := rfl
      rw [e, hq, if_neg hb]
  · have hc := of_decide_eq_false hc
    have : t = rs.length := by omega
    subst this
    have hI : if x.k = 2 then k = (rkL xs act true rc (rs.take rs.length) 0 : Int) else k = (sumW (W xs) (rs.take rs.length) : Int) /\ rkL xs act false rc rs 0 = rkL xs act false rc (rs.drop rs.length) (sumW (W xs) (rs.take rs.length)) := hI
    rw [List.take_of_length_le (Nat.le_refl _)] at hI
    by_cases hk : x.k = 2
    · rw [if_pos hk] at hI
      rw [hI, hk]
      rfl
    · rw [if_neg hk, List.drop_length] at hI
      have ek : (x.k == 2) = false := by simpa using hk
      rw [ek, hI.1]
      have : rkL xs act false (fun r => rkW xs act f r.toNat) rs 0 = sumW (W xs) rs := hI.2
      rw [this]
end
end Go.Proofs.Ytddfmhccaapgjaa.Con
namespace Go.Proofs.Ytddfmhccaapgjaa.Con
open Go Go.RowKit Go.Kt Go.Kt.V Go.Proofs.Ytddfmhccaapgjaa.Vc
set_option linter.unusedSimpArgs false
set_option linter.unusedVariables false
set_option maxHeartbeats 800000
set_option maxRecDepth 100000
section
variable {Z : Prop} {w w' : World} {b : Nat} {F : Nat -> Prop} {vs sl : Sl} {vars : List Vr} {nc : List Value} {xs : List Spo}
theorem lktargets_c {G : Nat -> Prop} (hF : Fo xs) (hm : xs.length <= 1000) {l : Sl} {tg : List (List UInt8)} (h : Lk Z w b F vs vars nc sl xs) (hl : SliceF rTx 1 w G l tg) (hz : tg.length <= 1100000) :
  Calls Try.prog 57 #[.pointer (some ⟨b, 0, none⟩), l.v] w fun e w' => (∃ r : Bool, e = .returned (.bool r)) /\ Only [] w w' := by
 refine (v83w ⟨b, 0, none⟩ l (fun v w' => (∃ r : Bool, v = .bool r) /\ Only [] w w') w ?_).mono (by rintro _ w' ⟨v, rfl, ⟨r, rfl⟩, h'⟩; exact ⟨⟨r, rfl⟩, h'⟩)
 unfold v83v
 have hln := hl.len
 have kT : ∀ {u : World}, Only [] w u -> SliceF rTx 1 u G l tg := fun hO => SliceF.only rTx_ok (by decide) hl hO (by simp)
 have kX : ∀ {u : World}, Only [] w u -> SliceF rSp 5 u F sl xs := fun hO => (h.only hO).sp
 have hxp : ∀ i : Int, Has xs i -> InI i := fun i hi => ⟨by have := hi.1; omega, by have := hi.2; omega⟩
 refine ⟨fun kv q i u => ∃ (j : Nat) (is : List Int), i = (j : Int) /\ kv + j = tg.length /\ j <= tg.length /\ is.length = j /\ (∀ n, n ∈ is -> Has xs n) /\ OwnI w.heap.size u q is /\ Only [] w u, tg.length, ⟨0, [], rfl, by omega, Nat.zero_le _, rfl, fun n hn => by simp at hn, Own.nil _ _ _ _ _ _, Only.refl _ _⟩, ?_⟩
 rintro kv q _ w0 ⟨j, is, rfl, hkv, hj, hil, his, hI, hO⟩
 refine ⟨fun hc w1 hO1 => ?_, fun _ => ⟨⟨true, rfl⟩, hO⟩⟩
 have hc := of_decide_eq_true hc
 have o1 := hO.tr0 hO1
 obtain ⟨ad, s, cs, g1, g2, g3, g4, g5, g6⟩ := (kT o1).get (Int.natCast_nonneg j) (by omega)
 have g6 : cs = [.string (T s)] := g6
 subst g6
 refine ⟨sl, (h.only o1).row, ad, g1, _, g5, (rfind_c (kX o1) hm _).mono ?_⟩
 rintro _ u ⟨⟨i1, rfl, hi1⟩, hu⟩
 obtain rfl : w1 = u := hu.symm
 refine ⟨i1, rfl, fun _ => ⟨⟨false, rfl⟩, o1⟩, fun hc1 => ?_⟩
 have hc1 := of_decide_eq_false hc1
 rcases hi1 with rfl | ⟨p, rfl, hp⟩
 · omega
 obtain ⟨x, hx⟩ := get_at hp
 obtain ⟨ad1, a1, a2, a3, _⟩ := sp_at (kX o1) hx
 have hI1 : OwnI w.heap.size w1 q is := (hI.keep rInt_ok fun k _ hlt => hO1.block k hlt (by simp))
 refine ⟨sl, (h.only o1).row, ad1, a1, _, a2.part 0 fun i v hi => one_part hi rfl, (rhistory_c w1 x.k).mono ?_⟩
 rintro _ u ⟨rfl, hu⟩
 obtain rfl : w1 = u := hu.symm
 refine ⟨_, rfl, fun i3 u => Has xs i3 /\ w1 = u, fun i3 w4 ⟨h3, hw4⟩ => ?_, fun _ => ⟨sl, (h.only o1).row, ad1, a1, _, a3, ?_, rfl⟩, fun _ => ⟨⟨by omega, by omega⟩, rfl⟩⟩
 · subst hw4
   refine ⟨fun kv2 i u => ∃ t : Nat, i = (t : Int) /\ kv2 + t = is.length /\ t <= is.length /\ Only [] w1 u, is.length, ⟨0, rfl, by omega, Nat.zero_le _, Only.refl _ _⟩, ?_⟩
   rintro kv2 _ w5 ⟨t, rfl, hkv2, ht, hO5⟩
   have hqn := hI1.len
   have o5 := o1.tr0 hO5
   have hI5 : OwnI w.heap.size w5 q is := hI1.keep rInt_ok fun k _ hlt => hO5.block k hlt (by simp)
   refine ⟨fun hc2 w6 hO6 => ?_, fun _ => ?_⟩
   · have hc2 := of_decide_eq_true hc2
     have o6 := o5.tr0 hO6
     have hI6 : OwnI w.heap.size w6 q is := hI5.keep rInt_ok fun k _ hlt => hO6.block k hlt (by simp)
     obtain ⟨y, hy⟩ : ∃ y, is[t]? = some y := ⟨_, List.getElem?_eq_getElem (show t < is.length by omega)⟩
     have hyh := his y (List.mem_of_getElem? hy)
     obtain ⟨ad2, b1, b2⟩ := int_at hI6.sl hy
     obtain ⟨y4, w7, k1, k2, k3⟩ := lit2 w6 (hxp i3 h3) (hxp y hyh)
     refine ⟨fun k => k = b, rfl, sl, (h.only o6).row, ad2, b1, y, b2, y4, w7, k1, Keeps.only k2, (rmeet9_c (kX (o6.tr0 k2)) hF hm k3 (by simp) (by
      intro n hn
      simp only [List.mem_cons, List.not_mem_nil, or_false] at hn
      rcases hn with rfl | rfl
      · exact h3
      · exact hyh)).mono ?_⟩
     rintro _ w8 ⟨⟨r, rfl, hr⟩, hO8⟩
     have o8 := (o6.tr0 k2).tr0 hO8
     obtain ⟨ad3, c1, c2⟩ := int_at (kI (kI hI6.sl k2) hO8) hy
     obtain ⟨z, hz'⟩ := get_at hr
     obtain ⟨ad4, d1, d2, _⟩ := sp_at (kX o8) hz'
     exact ⟨_, rfl, Keeps.only hO8, ad3, fun _ => c1, _, fun _ => c2, sl, fun _ => (h.only o8).row, ad4, fun _ => d1, _, fun _ => d2.part 0 fun i v hi => one_part hi rfl, fun _ => ⟨⟨false, rfl⟩, o8⟩, fun _ => ⟨kv2 - 1, by omega, t + 1, by rw [wr' (by omega) (by omega)]; rfl, by omega, by omega, (hO5.tr0 hO6).tr0 (k2.tr0 hO8)⟩⟩
   · obtain ⟨y1, w9, k1, k3, s', w10, g1, g2, g3, g4⟩ := addI w hI5 o5 i3 (hxp i3 h3) (by omega)
     refine ⟨y1, w9, k1, s', w10, g1, kv - 1, by omega, j + 1, is ++ [i3], by rw [wr' (by omega) (by omega)]; rfl, by omega, by omega, by rw [List.length_append, List.length_singleton, hil], fun n hn => ?_, g2, g3⟩
     rcases List.mem_append.1 hn with hn | hn
     · exact his n hn
     · simp only [List.mem_singleton] at hn
       subst hn
       exact h3
 · obtain ⟨pp, s0, q1, q2, q3, _⟩ := hF.par hx (by omega)
   have := get_lt q3
   rw [q2]
   exact ⟨by omega, by omega⟩
end
end Go.Proofs.Ytddfmhccaapgjaa.Con
namespace Go.Proofs.Ytddfmhccaapgjaa.Con
open Go Go.RowKit Go.Kt Go.Kt.V Go.Proofs.Ytddfmhccaapgjaa.Vc
set_option linter.unusedSimpArgs false
set_option linter.unusedVariables false
set_option maxHeartbeats 1600000
set_option maxRecDepth 100000
section
variable {Z : Prop} {w w' : World} {b : Nat} {F : Nat -> Prop} {vs sl : Sl} {vars : List Vr} {nc : List Value} {xs : List Spo}
def parP (x : Nd) : Prop := x.b.k = 2 -> ∃ y, y ∈ x.kids /\ y.b.k ≠ 3 /\ y.b.k ≠ 4
theorem lknode_c {G : Nat -> Prop} (hG : ∀ k, G k -> k ≠ b) (hF : Fo xs) (hv : vars.length <= 8388608) (hm : xs.length <= 1000) {D : Nat} {x : Nd} {cs : List Value} (h : Lk Z w b F vs vars nc sl xs) (hx : rNd false (D + 1) w G x cs) (hz : szN x <= 100000000) {a : Nat} (ha : a < xs.length) (hzt : szN x <= 8388608) (htl : ∀ m, m ∈ x.b.mv -> m.tg.length <= 1100000) (hkl : x.kids.length <= 2000000) :
    Calls Try.prog 45 #[.pointer (some ⟨b, 0, none⟩), .agg cs.toArray, .int .i64 (a : Int)] w fun e w' => e = .returned (.tuple #[]) /\ Lk (Z /\ parP x) w' b F vs vars nc sl xs /\ Only [b] w w' := by
  obtain ⟨bb, ks⟩ := x
  obtain ⟨en, lv, mv, kids, hcs, ⟨he, hlv, hmv⟩, hk0⟩ := hx
  dsimp only [Nd.kids, Nd.b] at hcs he hlv hmv hk0 htl hkl
  subst hcs
  have hk := hk0.1
  rw [szN] at hzt
  unfold szB at hzt
  have hb := h.lb
  refine ret (v81w ⟨b, 0, none⟩ bb.k (T bb.nm) (T bb.ini) (T bb.dft) en lv mv kids bb.a a (fun v w' => v = .tuple #[] /\ Lk (Z /\ parP (.mk bb ks)) w' b F vs vars nc sl xs /\ Only [b] w w') w ?_)
  unfold v81v
  intro k0 w0 hk0' hk0'' hO0
  have z0 := hO0.size
  let St : Prop -> World -> Prop := fun Y u => Lk Y u b F vs vars nc sl xs /\ Only [b] w u /\ w0.heap.size <= u.heap.size
  let Z' : Prop := Z /\ parP (.mk bb ks)
  have s0 : St Z w0 := ⟨h.only hO0, only1 hO0, Nat.le_refl _⟩
  have sm : ∀ {Y : Prop} {u u' : World}, St Y u -> Only [b] u u' -> Same [k0] u u' := fun hs hO => hO.same (by have := hs.2.2; simp; omega)
  have st0 : ∀ {Y : Prop} {u u' : World}, St Y u -> Only [] u u' -> St Y u' := fun {Y u u'} hs hO => ⟨hs.1.only hO, only11 hs.2.1 (only1 hO), by have := hs.2.2; have := hO.size; omega⟩
  have st1 : ∀ {Y Y' : Prop} {u u' : World}, St Y u -> Lk Y' u' b F vs vars nc sl xs -> Only [b] u u' -> St Y' u' := fun {Y Y' u u'} hs h' hO => ⟨h', only11 hs.2.1 hO, by have := hs.2.2; have := hO.size; omega⟩
  have wrongS : ∀ (e a' : Int) {u : World}, e ≠ 0 -> ∀ {Y Y' : Prop}, St Y u -> Calls Try.prog 31 #[.pointer (some ⟨b, 0, none⟩), .int .i64 e, .int .i64 a'] u fun r u' => r = .returned (.tuple #[]) /\ Same [k0] u u' /\ St Y' u' := fun e a' {u} he {Y Y'} hs => (lkwrong_c hs.1 e a' he).mono (by
    rintro _ u' ⟨rfl, h', hO⟩
    exact ⟨rfl, sm hs hO, st1 hs (h'.imp False.elim) hO⟩)
  have histS : ∀ (k : Int) {u : World}, Calls Try.prog 37 #[.int .i64 k] u fun r u' => ∃ b' : Bool, r = .returned (.bool b') /\ u = u' /\ b' = ((k == 3) || (k == 4)) := fun k {u} => (rhistory_c u k).mono (by
    rintro _ u' ⟨rfl, hu⟩
    exact ⟨_, rfl, hu.symm, rfl⟩)
  have kA : ∀ {u : World} {q : Sl} {la : List Ac}, SlG false (rAc false) 9 113 w G q la -> ∀ {Y : Prop}, St Y u -> SlG false (rAc false) 9 113 u G q la := fun {u q la} hq {Y} hs => hq.keep (rAc_ok false) (by decide) fun k hk hlt => hs.2.1.block k hlt (by simpa using hG k hk)
  have kK : ∀ {Y : Prop} {u : World}, St Y u -> SliceF (rNd false D) 9 u G kids ks := fun hs => SliceF.only (rNd_ok false D) (by decide) hk hs.2.1 fun k hk _ hm => hG k hk (by simpa using hm)
  have hkn := hk.len
  refine ⟨fun kv i0 _ i u => ∃ j : Nat, i = (j : Int) /\ kv + j = ks.length /\ j <= ks.length /\ St Z u /\ 0 <= i0 /\ i0 <= j /\ (0 < i0 -> ∃ y, y ∈ ks /\ y.b.k ≠ 3 /\ y.b.k ≠ 4), ks.length, ⟨0, rfl, by omega, Nat.zero_le _, s0, Int.le_refl _, Int.le_refl _, fun h => absurd h (by decide)⟩, ?_⟩
  rintro kv i0 b0 _ w1 ⟨j, rfl, hkv, hj, s1, hi0, hi1, hi2⟩
  refine ⟨fun hcj => ?_, fun _ => (histS bb.k).mono ?_⟩
  · have hcj := of_decide_eq_true hcj
    have at_ : ∀ {Y : Prop} {u : World}, St Y u -> ∃ (ad : Addr) (kd : Int) (s : ByteArray), SlAt kids (j : Int) 9 ad /\ Cells u (ad.add 0) [.int .i64 kd] /\ Cells u (ad.add 1) [.string s] /\ ∃ y, y ∈ ks /\ y.b.k = kd := fun {Y u} hs => by
      obtain ⟨ad, y, ds, g1, g2, g3, g4, g5, g6⟩ := (kK hs).get (Int.natCast_nonneg j) (by omega)
      cases D with
      | zero => exact g6.elim
      | succ D' =>
        obtain ⟨en', lv', mv', kids', rfl, _⟩ := g6
        exact ⟨ad, _, _, g1, g5.part 0 fun i v hi => one_part hi rfl, g5.part 1 fun i v hi => one_part hi rfl, y, List.mem_of_getElem? g2, rfl⟩
    obtain ⟨ad, kd, s, g1, g2, g3, yk, hyk, hyd⟩ := at_ s1
    refine ⟨ad, g1, kd, g2, (histS kd).mono ?_⟩
    rintro _ u ⟨b1, rfl, rfl, hb1⟩
    refine ⟨b1, rfl, Same.refl _ _, fun i3 u => St Z u /\ 0 <= i3 /\ i3 <= (j : Int) + 1 /\ (0 < i3 -> ∃ y, y ∈ ks /\ y.b.k ≠ 3 /\ y.b.k ≠ 4), fun i3 w3 ⟨s3, q1, q2, q3⟩ => ?_, fun hn => ?_, fun _ => ⟨s1, hi0, by omega, hi2⟩⟩
    · obtain ⟨ad3, kd3, s3', p1, p2, p3, _⟩ := at_ s3
      exact ⟨ad3, fun _ => p1, _, fun _ => p3, fun w4 hO4 => ⟨kv - 1, by omega, j + 1, by rw [wr' (by omega) (by omega)]; rfl, by omega, by omega, st0 s3 hO4, q1, by omega, q3⟩⟩
    · rw [wr' (by omega) (by omega)]
      subst hb1
      simp only [Bool.not_eq_true', Bool.or_eq_false_iff, beq_eq_false_iff_ne] at hn
      exact ⟨s1, by omega, by omega, fun _ => ⟨yk, hyk, by rw [hyd]; exact hn.1, by rw [hyd]; exact hn.2⟩⟩
  rintro _ u ⟨b2, rfl, rfl, hb2⟩
  have actsS : ∀ {q : Sl} {la : List Ac}, SlG false (rAc false) 9 113 w G q la -> szAs la <= 8388608 -> ∀ {Y : Prop} {u : World}, St Y u -> Calls Try.prog 55 #[.pointer (some ⟨b, 0, none⟩), q.v] u fun r u' => r = .returned (.tuple #[]) /\ Only [b] u u' /\ St Y u' := fun {q la} hq hz {Y u} hs => (lkacts_c hG hv hm hs.1 (kA hq hs) hz).mono (by
    rintro _ u' ⟨rfl, h', hO⟩
    exact ⟨rfl, hO, st1 hs h' hO⟩)
  refine ⟨b2, rfl, Same.refl _ _, St Z', fun w6 s6 => ?_, ?_, ?_⟩
  · refine (actsS he (by omega) s6).mono ?_
    rintro _ w7 ⟨rfl, hO7, s7⟩
    refine ⟨rfl, sm s6 hO7, (actsS hlv (by omega) s7).mono ?_⟩
    rintro _ w8 ⟨rfl, hO8, s8⟩
    have hml := hmv.1.len
    have hmm := szMs_len bb.mv
    refine ⟨rfl, sm s7 hO8, fun kv i u => ∃ j : Nat, i = (j : Int) /\ kv + j = bb.mv.length /\ j <= bb.mv.length /\ St Z' u, bb.mv.length, ⟨0, rfl, by omega, Nat.zero_le _, s8⟩, ?_⟩
    rintro kv3 _ w9 ⟨t, rfl, hkv3, ht, s9⟩
    refine ⟨fun hct => ?_, fun _ => ⟨rfl, s9.1, s9.2.1⟩⟩
    have hct := of_decide_eq_true hct
    obtain ⟨ad, y, ds, g1, g2, g3, g4, g5, g6⟩ := (SliceF.only (rMv_ok false) (by decide) hmv.1 s9.2.1 fun k hk _ hm => hG k hk (by simpa using hm)).get (Int.natCast_nonneg t) (by omega)
    rw [Int.toNat_natCast] at g2
    have hym := List.mem_of_getElem? g2
    have hys := szMs_mem hym
    unfold szM at hys
    obtain ⟨gc, asl, tg, rfl, hg, hac, htg⟩ := g6
    obtain ⟨gs, rfl⟩ := rE_cells hg
    refine ⟨fun u => St Z' u, fun w10 s10 => ⟨kv3 - 1, by omega, t + 1, by rw [wr' (by omega) (by omega)]; rfl, by omega, by omega, s10⟩, ad, g1, _, _, _, _, _, _, _, _, _, _, _, _, _, g5, fun k7 w11 hk7 hk7' hO11 => ?_⟩
    have z9 := s9.2.2
    have hk7b : k7 ≠ b := by have := s9.1.lb; omega
    have sm2 : ∀ {u u' : World}, w11.heap.size <= u.heap.size -> Only [b] u u' -> Same [k0, k7] u u' := fun hz hO => hO.same (by have := hO11.size; simp; omega)
    have o11 : Only [b] w9 w11 := only1 hO11
    have s11 := st0 s9 hO11
    obtain ⟨dg, hgx⟩ := hg
    let S5 : World -> Prop := fun u => St Z' u /\ Only [b] w9 u /\ w11.heap.size <= u.heap.size
    have up : ∀ {u u' : World}, S5 u -> Lk Z' u' b F vs vars nc sl xs -> Only [b] u u' -> S5 u' := fun {u u'} hs h' hO => ⟨st1 hs.1 h' hO, only11 hs.2.1 hO, by have := hs.2.2; have := hO.size; omega⟩
    refine ⟨S5, fun w12 s12 => ?_, fun _ => ?_, fun _ => ⟨s11, o11, Nat.le_refl _⟩⟩
    · refine (lkexpr_c hG hv hm dg s12.1.1 ((rXg_ok false dg).keep hgx fun k hk hlt => s12.2.1.block k hlt (by simpa using hG k hk)) (by omega)).mono ?_
      rintro _ w13 ⟨rfl, h13, hO13⟩
      have s13 := up s12 h13 hO13
      refine ⟨rfl, sm2 s12.2.2 hO13, (lkacts_c hG hv hm h13 (hac.keep (rAc_ok false) (by decide) fun k hk hlt => s13.2.1.block k hlt (by simpa using hG k hk)) (by omega)).mono ?_⟩
      rintro _ w14 ⟨rfl, h14, hO14⟩
      have s14 := up s13 h14 hO14
      refine ⟨rfl, sm2 s13.2.2 hO14, (lktargets_c hF hm h14 (SliceF.only rTx_ok (by decide) htg.1 s14.2.1 fun k hk _ hm' => hG k hk (by simpa using hm')) (htl y hym)).mono ?_⟩
      rintro _ w15 ⟨⟨b4, rfl⟩, hO15⟩
      have s15 := up s14 (h14.only hO15) (only1 hO15)
      refine ⟨b4, rfl, sm2 s14.2.2 (only1 hO15), fun _ => (lkwrong_c s15.1.1 27 _ (by decide)).mono ?_, fun _ => s15.1⟩
      rintro _ w16 ⟨rfl, h16, hO16⟩
      exact ⟨rfl, sm2 s15.2.2 hO16, (up s15 (h16.imp False.elim) hO16).1⟩
    · refine (lkwrong_c s11.1 28 _ (by decide)).mono ?_
      rintro _ w17 ⟨rfl, h17, hO17⟩
      exact ⟨rfl, sm2 (Nat.le_refl _) hO17, up ⟨s11, o11, Nat.le_refl _⟩ (h17.imp False.elim) hO17⟩
  · intro hh w18 hO18
    have hP : parP (.mk bb ks) := fun e => by
      have e : bb.k = 2 := e
      rw [hb2, e] at hh
      cases hh
    have s18 := st0 (Y := Z') ⟨s1.1.imp fun z => ⟨z, hP⟩, s1.2⟩ hO18
    refine ⟨sl, s18.1.row, (rfind_c s18.1.sp hm _).mono ?_⟩
    rintro _ u ⟨⟨i12, rfl, hi⟩, hu⟩
    obtain rfl : w18 = u := hu.symm
    refine ⟨i12, rfl, Same.refl _ _, fun w20 hO20 => ?_⟩
    have s20 := st0 s18 hO20
    obtain ⟨y, hy⟩ := get_at ha
    obtain ⟨ad, a1, _, a3, _⟩ := sp_at s20.1.sp hy
    refine ⟨sl, s20.1.row, sl, s20.1.row, ad, a1, _, a3, (rwithin9_c s20.1.sp _ _).mono ?_⟩
    rintro _ u ⟨rfl, hu⟩
    obtain rfl : w20 = u := hu.symm
    refine ⟨_, rfl, Same.refl _ _, fun _ u => St Z' u, fun b6 w22 s22 => ⟨fun _ => (wrongS 26 bb.a (by decide) (Y' := Z') s22).mono ?_, fun _ => s22⟩, fun _ => s20, fun hc => ?_⟩
    · rintro _ u ⟨rfl, h1, h2⟩
      exact ⟨rfl, h1, h2⟩
    · rw [Bool.or_eq_false_iff] at hc
      have hc1 := of_decide_eq_false hc.1
      rcases hi with rfl | ⟨q, rfl, hq⟩
      · omega
      obtain ⟨z, hz'⟩ := get_at hq
      obtain ⟨ad2, d1, d2, _⟩ := sp_at s20.1.sp hz'
      refine ⟨sl, s20.1.row, ad2, d1, _, d2.part 0 fun i v hi => one_part hi rfl, (histS z.k).mono ?_⟩
      rintro _ u ⟨b7, rfl, rfl, _⟩
      exact ⟨_, rfl, Same.refl _ _, s20⟩
  · have hkl' : (kids.n : Int) = ks.length := by omega
    refine fun _ => ⟨fun b8 u => St Z u /\ (b8 = false -> parP (.mk bb ks)), fun b8 w25 ⟨s25, p25⟩ => ⟨fun _ => (wrongS 25 bb.a (by decide) (Y' := Z') s25).mono ?_, fun hb8 => ⟨fun _ => (wrongS 26 bb.a (by decide) (Y' := Z') s25).mono ?_, fun _ => ⟨s25.1.imp fun z => ⟨z, p25 hb8⟩, s25.2⟩⟩⟩, fun hc => ⟨s1, fun h => by rw [h] at hc; cases hc⟩, fun hc => ?_⟩
    · rintro _ u ⟨rfl, h1, h2⟩
      exact ⟨rfl, h1, h2⟩
    · rintro _ u ⟨rfl, h1, h2⟩
      exact ⟨rfl, h1, h2⟩
    have hP : parP (.mk bb ks) := fun e => by
      have e : bb.k = 2 := e
      rw [e] at hc
      simp only [Bool.and_eq_false_iff, Bool.or_eq_false_iff, decide_eq_false_iff_not] at hc
      exact hi2 (by rcases hc with hc | hc
                    · cases hc
                    · omega)
    exact ⟨fun hc' => ⟨s1, fun _ => hP⟩, fun _ => ⟨s1, fun _ => hP⟩⟩
end
mutual
def prN : Nd -> Prop
 | .mk b ks => parP (.mk b ks) /\ prNs ks
def prNs : List Nd -> Prop
 | [] => True
 | x :: l => prN x /\ prNs l
end
theorem prNs_app : ∀ l m : List Nd, prNs (l ++ m) ↔ prNs l /\ prNs m
 | [], m => by rw [List.nil_append, prNs]; simp
 | x :: l, m => by rw [List.cons_append, prNs, prNs, prNs_app l m, and_assoc]
section
variable {b : Nat} {F : Nat -> Prop} {vs sl : Sl} {vars : List Vr} {nc : List Value} {xs : List Spo}
theorem lkall_c {G : Nat -> Prop} (hG : ∀ k, G k -> k ≠ b) (hF : Fo xs) (hv : vars.length <= 8388608) (hm : xs.length <= 1000) : ∀ (D : Nat) {Z : Prop} {w : World} {x : Nd} {cs : List Value} {a : Nat}, Lk Z w b F vs vars nc sl xs -> rNd false D w G x cs -> szN x <= 1048576 -> a + nNd x <= xs.length ->
  Calls Try.prog 32 #[.pointer (some ⟨b, 0, none⟩), .agg cs.toArray, .int .i64 (a : Int)] w fun e w' => e = .returned (.int .i64 ((a + nNd x : Nat) : Int)) /\ Lk (Z /\ prN x) w' b F vs vars nc sl xs /\ Only [b] w w'
 | 0, _, _, _, _, _, _, h, _, _ => h.elim
 | D + 1, Z, w, .mk bb ks, cs, a, h, hx, hz, ha => by
  have hx' := hx
  obtain ⟨en, lv, mv, kids, hcs, _, hk0⟩ := hx
  dsimp only [Nd.kids, Nd.b] at hcs hk0
  subst hcs
  have hk := hk0.1
  have hkn := hk.len
  have hz' := hz
  rw [szN] at hz'
  unfold szB at hz'
  have hkk := szNs_len ks
  have hb := h.lb
  have hnp := ha
  rw [nNd] at ha ⊢
  have htg : ∀ m, m ∈ bb.mv -> m.tg.length <= 1100000 := fun m hm' => by
   have h1 := szMs_mem hm'
   unfold szM at h1
   have h2 := szT_len m.tg
   omega
  refine ret (v79w ⟨b, 0, none⟩ bb.k (T bb.nm) (T bb.ini) (T bb.dft) en lv mv kids bb.a a (fun v w' => v = .int .i64 ((a + (nNds ks + 1) : Nat) : Int) /\ Lk (Z /\ prN (.mk bb ks)) w' b F vs vars nc sl xs /\ Only [b] w w') w ?_)
  unfold v79v
  intro k0 w0 hk0' hk0'' hO0
  have z0 := hO0.size
  refine (lknode_c hG hF hv hm (h.only hO0) ((rNd_ok false _).keep hx' fun k _ hlt => hO0.block k hlt (by simp)) (by omega) (a := a) (by omega) (by omega) htg (by show ks.length <= _; omega)).mono ?_
  rintro _ w1 ⟨rfl, h1, hO1⟩
  have z1 := hO1.size
  have o1 : Only [b] w w1 := only11 (only1 hO0) hO1
  refine ⟨rfl, hO1.same (by simp; omega), fun kv i i2 u => ∃ j : Nat, i2 = (j : Int) /\ kv + j = ks.length /\ j <= ks.length /\ i = ((a + 1 + nNds (ks.take j) : Nat) : Int) /\ Lk (Z /\ parP (.mk bb ks) /\ prNs (ks.take j)) u b F vs vars nc sl xs /\ Only [b] w u /\ w0.heap.size <= u.heap.size, ks.length, ⟨0, rfl, by omega, Nat.zero_le _, by rw [List.take_zero, nNds, wr' (by omega) (by omega)]; rfl, h1.imp fun z => ⟨z.1, z.2, by rw [List.take_zero, prNs]; trivial⟩, o1, by omega⟩, ?_⟩
  rintro kv _ _ w2 ⟨j, rfl, hkv, hj, rfl, h2, o2, z2⟩
  refine ⟨fun hc => ?_, fun hc => ?_⟩
  · have hc := of_decide_eq_true hc
    obtain ⟨ad, y, ds, g1, g2, g3, g4, g5, g6⟩ := (SliceF.only (rNd_ok false D) (by decide) hk o2 fun k hk _ hm => hG k hk (by simpa using hm)).get (Int.natCast_nonneg j) (by omega)
    rw [Int.toNat_natCast] at g2
    have hyz := szNs_mem (List.mem_of_getElem? g2)
    have hle := nNds_take g2
    have g6' := g6
    obtain ⟨D', rfl⟩ : ∃ D', D = D' + 1 := by
     cases D with
     | zero => exact g6.elim
     | succ D' => exact ⟨D', rfl⟩
    obtain ⟨en', lv', mv', kids', rfl, _⟩ := g6
    refine ⟨ad, g1, _, _, _, _, en', lv', mv', kids', _, g5, (lkall_c hG hF hv hm (D' + 1) h2 g6' (by omega) (by omega)).mono ?_⟩
    rintro _ w3 ⟨rfl, h3, hO3⟩
    have z3 := hO3.size
    have e : nNds (ks.take (j + 1)) = nNds (ks.take j) + nNd y := by
     rw [List.take_add_one, g2, nNds_app]
     show _ + nNds [y] = _
     rw [nNds, nNds]
     omega
    exact ⟨_, rfl, hO3.same (by simp; omega), kv - 1, by omega, j + 1, by rw [wr' (by omega) (by omega)]; rfl, by omega, by omega, by rw [e]; congr 1; omega, h3.imp fun z => ⟨z.1.1, z.1.2.1, by rw [List.take_add_one, g2, prNs_app]; exact ⟨z.1.2.2, z.2, trivial⟩⟩, only11 o2 hO3, by omega⟩
  · have hc := of_decide_eq_false hc
    have hje : j = ks.length := by omega
    subst hje
    rw [List.take_of_length_le (Nat.le_refl _)] at h2 ⊢
    exact ⟨by congr 2; omega, h2.imp fun z => ⟨z.1, by rw [prN]; exact z.2⟩, o2⟩
end
def OwnA (B : Nat) (w : World) (s : Sl) (n : Nat) : Prop := ∃ is : List Int, is.length = n /\ Own (fun _ _ (x : Int) cs => cs = [.int .i64 x]) 1 3 B w (fun _ => False) s is
theorem rAny_ok : Rp.Ok (fun _ _ (x : Int) cs => cs = [Value.int .i64 x]) := ⟨fun h _ => h, fun h => h, fun h _ => h, fun h => by
  subst h
  intro v hv
  simp only [List.mem_cons, List.not_mem_nil, or_false] at hv
  subst hv
  rfl⟩
theorem ats_c (t : Bool) : ∀ (D : Nat) {w : World} {G : Nat -> Prop} {x : Nd} {cs : List Value} {B : Nat} {s : Sl} {n : Nat}, rNd t D w G x cs -> (∀ k, G k -> k < B) -> OwnA B w s n -> B <= w.heap.size -> n + nNd x <= 1000000 ->
  Calls Try.prog 29 #[.agg cs.toArray, s.v] w fun e w' => ∃ s', e = .returned (Sl.v s') /\ OwnA B w' s' (n + nNd x) /\ Gr s w s' w'
 | 0, _, _, _, _, _, _, _, h, _, _, _, _ => h.elim
 | D + 1, w, G, .mk bb ks, cs, B, s, n, ⟨en, lv, mv, kids, hcs, _, hk0⟩, hG, ⟨is, hil, hS⟩, hBw, hn => by
  have hk := hk0.1
  clear hk0
  dsimp only [Nd.kids, Nd.b] at hk hcs
  subst hcs
  rw [nNd] at hn ⊢
  have hkl := hk.len
  have hnn := nNds_len ks
  refine (v77w bb.k (T bb.nm) (T bb.ini) (T bb.dft) en lv mv kids bb.a s (fun v w' => ∃ s', v = Sl.v s' /\ OwnA B w' s' (n + (nNds ks + 1)) /\ Gr s w s' w') w ?_).mono (by rintro _ w' ⟨v, rfl, s', rfl, h⟩; exact ⟨s', rfl, h⟩)
  unfold v77v
  intro k0 w0 hk0 hk0' hO0
  have z0 := hO0.size
  have hS0 : Own (fun _ _ (x : Int) cs => cs = [Value.int .i64 x]) 1 3 B w0 (fun _ => False) s is := hS.keep rAny_ok fun k _ hlt => hO0.block k hlt (by simp)
  obtain ⟨y, w2, k1, k3, s3, w3, g1, g2, ⟨gs, g3, g4⟩, g5⟩ := app_one (P := Try.prog) (t := 30) (ty := 30) (e := 3) (i := Try.t3) (bytes := 8) (size := 1) (G := fun _ => False) (v := .int .i64 bb.a) (x := bb.a) (by kernel_rfl) (by kernel_rfl) rfl rfl rfl rfl (by decide) (by decide) (by decide) rAny_ok hS0 (by omega) rfl rfl (fun _ h => h.elim) (by omega)
  have z2 := k3.size
  have z3 := g3.size
  have hk0s : s.a ≠ some ⟨k0, 0, none⟩ := fun e => by have := (hS.blk e).2; dsimp only at this; omega
  have m3 : Gr s w s3 w3 := by
   refine ⟨(hO0.tr0 k3).trP (g3.p (F := fun k => s.a = some ⟨k, 0, none⟩) fun g hg => .inl (g4 g hg).1), fun k hk => ?_⟩
   rcases g5 with e | ⟨g, e, h⟩
   · exact .inl (by rw [<- e]; exact hk)
   · rw [e] at hk
     injection hk with hk
     injection hk with hk
     exact .inr (by omega)
  have n3 : ∀ k, s3.a = some ⟨k, 0, none⟩ -> k ≠ k0 := fun k hk e => by
   subst e
   rcases g5 with e | ⟨g, e, h⟩
   · exact hk0s (by rw [<- e]; exact hk)
   · rw [e] at hk
     injection hk with hk
     injection hk with hk
     omega
  have hS3 : OwnA B w3 s3 (n + 1) := ⟨is ++ [bb.a], by rw [List.length_append, List.length_singleton, hil], by
   rcases g2 with ⟨e1, e2⟩ | ⟨g, css, tail, h1, h2, h4, h5, h6, h7, h9, h8⟩
   · simp at e2
   · exact .inr ⟨g, css, tail, h1, h2, h4, h5, h6, h7, h9, All2.impM (fun x c _ hc => hc) h8⟩⟩
  have hk' : ∀ {u : World} {q : Sl}, Gr s w q u -> SliceF (rNd t D) 9 u G kids ks := fun hm => SliceF.onlyP (rNd_ok t D) (by decide) hk hm.1 fun k hGk _ h => by
   have := hG k hGk
   have := (hS.blk h).1
   dsimp only at this
   omega
  refine ⟨y, w2, k1, k3.same (by simp; omega), s3, w3, g1, g3.same fun x hx => ⟨by simp only [List.mem_singleton] at hx; omega, fun h => by simp only [List.mem_singleton] at hx; subst hx; exact hk0s (g4 _ h).1⟩, fun kv q i w' => ∃ j : Nat, i = (j : Int) /\ kv + j = ks.length /\ j <= ks.length /\ OwnA B w' q (n + 1 + nNds (ks.take j)) /\ Gr s w q w' /\ w3.heap.size <= w'.heap.size /\ ∀ k, q.a = some ⟨k, 0, none⟩ -> k ≠ k0, ks.length, ⟨0, rfl, by omega, Nat.zero_le _, by rw [List.take_zero, nNds]; exact hS3, m3, Nat.le_refl _, n3⟩, ?_⟩
  rintro kv q _ w5 ⟨j, rfl, hkv, hjl, hS5, m5, z5, n5⟩
  refine ⟨fun hc => ?_, fun hc => ?_⟩
  · have hc := of_decide_eq_true hc
    obtain ⟨ad, y', ds, a1, a2, a3, a4, a5, a6⟩ := (hk' m5).get (Int.natCast_nonneg j) (by omega)
    rw [Int.toNat_natCast] at a2
    have a6' := a6
    obtain ⟨D', rfl⟩ : ∃ D', D = D' + 1 := by
     cases D with
     | zero => exact a6.elim
     | succ D' => exact ⟨D', rfl⟩
    obtain ⟨en', lv', mv', kids', rfl, _⟩ := a6'
    have hle := nNds_take a2
    refine ⟨ad, a1, _, _, _, _, en', lv', mv', kids', _, a5, (ats_c t (D' + 1) a6 hG hS5 (by omega) (by omega)).mono ?_⟩
    rintro _ w7 ⟨q7, rfl, hS7, m7⟩
    have z7 := m7.1.size
    refine ⟨q7, rfl, m7.1.same fun x hx => ?_, kv - 1, by omega, j + 1, by rw [wr' (by omega) (by omega)]; rfl, by omega, by omega, ?_, m5.trans m7, by omega, fun k hk e => ?_⟩
    · simp only [List.mem_singleton] at hx
      subst hx
      exact ⟨by omega, fun h => n5 _ h rfl⟩
    · have e : nNds (ks.take (j + 1)) = nNds (ks.take j) + nNd y' := by
       rw [List.take_add_one, a2, nNds_app]
       show _ + nNds [y'] = _
       rw [nNds, nNds]
       omega
      rw [e, <- Nat.add_assoc]
      exact hS7
    · subst e
      rcases m7.2 _ hk with h | h
      · exact n5 _ h rfl
      · omega
  · have hc := of_decide_eq_false hc
    have hje : j = ks.length := by omega
    subst hje
    rw [List.take_of_length_le (Nat.le_refl _)] at hS5
    exact ⟨q, rfl, by rw [show n + (nNds ks + 1) = n + 1 + nNds ks by omega]; exact hS5, m5⟩
theorem OwnSp.sl' {B : Nat} {w : World} {s : Sl} {xs : List Spo} (h : OwnSp B w s xs) : SliceF rSp 5 w (fun k => B <= k) s xs := (h.slice rSp_ok).mono rSp_ok fun k hk => hk.elim (fun h => h.elim) fun h => h.1
theorem rcheck_c {w : World} {F : Nat -> Prop} {D : Nat} {c : Ch} {vs : Sl} {cs : List Value} (hx : ChR false (D + 1) w F c vs cs) (hn : chN c) (hs : szVs c.vars + szN c.root <= 1048576) :
  Calls Try.prog 16 #[.agg (vs.v :: cs).toArray] w fun e w' => (∃ er a : Int, e = .returned (.agg #[.int .i64 er, .int .i64 a]) /\ (er = 0 -> RtC c /\ prN c.root)) /\ Only [] w w' := by
 have hroot := hx.root
 obtain ⟨en, lv, mv, kids, hcs, _⟩ := hx.root
 subst hcs
 refine (v75w vs c.root.b.k (T c.root.b.nm) (T c.root.b.ini) (T c.root.b.dft) en lv mv kids c.root.b.a (fun v w' => (∃ er a : Int, v = .agg #[.int .i64 er, .int .i64 a] /\ (er = 0 -> RtC c /\ prN c.root)) /\ Only [] w w') w ?_).mono (by rintro _ w' ⟨v, rfl, ⟨er, a, rfl, h⟩, h'⟩; exact ⟨⟨er, a, rfl, h⟩, h'⟩)
 unfold v75v
 intro k0 k1 w0 hk0 hk0' hk1 hk1' hO0
 have z0 := hO0.size
 have keep : ∀ {u : World}, Only [] w u -> ChR false (D + 1) u F c vs (ndv c.root.b.k c.root.b.nm c.root.b.ini c.root.b.dft en lv mv kids c.root.b.a) := fun hO => ⟨hx.vars.keep rVr_ok (by decide) fun k _ hlt => hO.block k hlt (by simp), (rNd_ok false _).keep hx.root fun k _ hlt => hO.block k hlt (by simp)⟩
 refine (rFlat_c (keep hO0) hn hs).mono ?_
 rintro _ w1 ⟨⟨sl, er, rfl, hF1⟩, hO1⟩
 have z1 := hO1.size
 have o1 := hO0.tr0 hO1
 refine ⟨sl, er, rfl, hO1.same (by simp; omega), fun hc w2 hO2 => ⟨⟨_, _, rfl, fun h => absurd h (by simpa using hc)⟩, ?_⟩, fun hc k2 w3 hk2 hk2' hO3 => ?_⟩
 · exact (o1.trP (hO2.p (F := fun k => w.heap.size <= k) fun x hx => by simp only [List.mem_singleton] at hx; exact .inl (by omega))).only fun k hk => hk
 have hc : er = 0 := by simpa using hc
 obtain ⟨hRt, hS1⟩ := hF1 hc
 obtain ⟨h64, _⟩ := id hRt
 have z3 := hO3.size
 have o3 := o1.tr0 hO3
 have hr3 : rNd false (D + 1) w3 (fun k => k < w.heap.size) c.root (ndv c.root.b.k c.root.b.nm c.root.b.ini c.root.b.dft en lv mv kids c.root.b.a) :=
  (rNd_ok false _).keep ((rNd_ok false _).mono ((rNd_ok false _).inHeap hx.root) fun k hk => hk.2) fun k _ hlt => o3.block k hlt (by simp)
 refine (ats_c false (D + 1) (B := w3.heap.size) (s := Sl.nil) (n := 0) hr3 (fun k hk => by omega) ⟨[], rfl, Own.nil _ _ _ _ _ _⟩ (Nat.le_refl _) (by omega)).mono ?_
 rintro _ w4 ⟨l1, rfl, ⟨is, hil, hA⟩, hG4⟩
 have hO4 : Only [] w3 w4 := hG4.1.only fun k hk => by cases hk
 have z4 := hO4.size
 have o4 := o3.tr0 hO4
 have hFo := fo_flat c
 have hfl : (flatC c).length = nNd c.root := by unfold flatC; rw [flN_len]
 have hvl := hx.vars.1.len
 have hvs : c.vars.length <= szVs c.vars := by
  have : ∀ l : List Vr, l.length <= szVs l := fun l => by induction l with
   | nil => exact Nat.zero_le _
   | cons a l ih => rw [szVs, List.length_cons]; omega
  exact this _
 generalize hxs : flatC c = xs at *
 have hv4 : SliceF rVr 3 w4 (fun k => k < w1.heap.size) vs c.vars := SliceF.mono rVr_ok (SliceF.keep rVr_ok (SliceF.inHeap rVr_ok hx.vars.1 (by decide)) (by decide) fun k hk hlt => o4.block k hlt (by simp)) fun k hk => by have := hk.2; omega
 have hs4 : SliceF rSp 5 w4 (fun k => k < w1.heap.size) sl xs := SliceF.mono rSp_ok (SliceF.keep rSp_ok (SliceF.inHeap rSp_ok hS1.sl' (by decide)) (by decide) fun k hk hlt => (hO3.tr0 hO4).block k hlt (by simp)) fun k hk => hk.2
 have hsn := hs4.len
 let NC : List Value := ndv c.root.b.k c.root.b.nm c.root.b.ini c.root.b.dft en lv mv kids c.root.b.a
 have mkLk : ∀ {u : World} {f1 f2 : Int}, Only [k2] w4 u -> Blk u k2 66 (vs.v :: (NC ++ [sl.v, .int .i64 f1, .int .i64 f2])) -> Lk True u k2 (fun k => k < w1.heap.size) vs c.vars NC sl xs := fun {u f1 f2} hO hB =>
  ⟨⟨_, _, hB, fun _ => trivial⟩, rfl, SliceF.only rVr_ok (by decide) hv4 hO fun k hk _ hm => by simp only [List.mem_singleton] at hm; omega, SliceF.only rSp_ok (by decide) hs4 hO fun k hk _ hm => by simp only [List.mem_singleton] at hm; omega, fun k hk => by omega⟩
 let SC : Sl -> Int -> ByteArray -> ByteArray -> ByteArray -> Sl -> Sl -> Sl -> Sl -> Int -> Sl -> Prop := fun l2 i2 s0 s1 s2 l3 l4 l5 l6 i3 l7 => vs = l2 /\ c.root.b.k = i2 /\ T c.root.b.nm = s0 /\ T c.root.b.ini = s1 /\ T c.root.b.dft = s2 /\ en = l3 /\ lv = l4 /\ mv = l5 /\ kids = l6 /\ c.root.b.a = i3 /\ sl = l7
 have sc0 : SC vs c.root.b.k (T c.root.b.nm) (T c.root.b.ini) (T c.root.b.dft) en lv mv kids c.root.b.a sl := ⟨rfl, rfl, rfl, rfl, rfl, rfl, rfl, rfl, rfl, rfl, rfl⟩
 have on2 : ∀ {u u' : World}, Only [k2] w4 u -> Only [k2] u u' -> Only [k2] w4 u' := fun h k => only11 h k
 have fin : ∀ {u : World}, Only [k2] w4 u -> Only [] w u := fun h => (o4.trP (h.p (F := fun k => w.heap.size <= k) fun x hx => by simp only [List.mem_singleton] at hx; exact .inl (by omega))).only fun k hk => hk
 have sm : ∀ {u u' : World}, Only [k2] w4 u -> k0 ≠ k2 -> k1 ≠ k2 -> Only [k2] u u' -> Same [k0, k1] u u' := fun {u u'} hu h1 h2 hO => hO.same (by have := hu.size; simp; omega)
 refine ⟨l1, rfl, hO4.same (by simp; omega), fun kv i l2 i2 s0 s1 s2 l3 l4 l5 l6 i3 l7 _ _ u => ∃ j : Nat, i = (j : Int) /\ kv + j = xs.length /\ j <= xs.length /\ SC l2 i2 s0 s1 s2 l3 l4 l5 l6 i3 l7 /\ Only [k2] w4 u, xs.length, ⟨0, rfl, by omega, Nat.zero_le _, sc0, Only.refl _ _⟩, ?_⟩
 have hA4 : SliceF (fun _ _ (x : Int) cs => cs = [Value.int .i64 x]) 1 w4 (fun k => w3.heap.size <= k) l1 is := (hA.slice rAny_ok).mono rAny_ok fun k hk => hk.elim (fun h => h.elim) fun h => h.1
 have hk2w : k2 < w4.heap.size := by omega
 have kA : ∀ {u : World}, Only [k2] w4 u -> SliceF (fun _ _ (x : Int) cs => cs = [Value.int .i64 x]) 1 u (fun k => w3.heap.size <= k) l1 is := fun h => SliceF.only rAny_ok (by decide) hA4 h fun k hk _ hm => by simp only [List.mem_singleton] at hm; omega
 have kS : ∀ {u : World}, Only [k2] w4 u -> SliceF rSp 5 u (fun k => k < w1.heap.size) sl xs := fun h => SliceF.only rSp_ok (by decide) hs4 h fun k hk _ hm => by simp only [List.mem_singleton] at hm; omega
 have kV : ∀ {u : World}, Only [k2] w4 u -> SliceF rVr 3 u (fun k => k < w1.heap.size) vs c.vars := fun h => SliceF.only rVr_ok (by decide) hv4 h fun k hk _ hm => by simp only [List.mem_singleton] at hm; omega
 have wr2 : ∀ {u : World} (e a f1 f2 : Int), e ≠ 0 -> Only [k2] w4 u -> k0 ≠ k2 -> k1 ≠ k2 -> Blk u k2 66 (vs.v :: (NC ++ [sl.v, .int .i64 f1, .int .i64 f2])) ->
   Calls Try.prog 31 #[.pointer (some ⟨k2, 0, none⟩), .int .i64 e, .int .i64 a] u fun r u' => r = .returned (.tuple #[]) /\ Same [k0, k1] u u' /\ ∃ g1 g2 : Int, Blk u' k2 66 (vs.v :: (NC ++ [sl.v, .int .i64 g1, .int .i64 g2])) /\ Only [k2] w4 u' := fun {u} e a f1 f2 he hu h1 h2 hB => (lkwrong_c (mkLk hu hB) e a he).mono (by
  rintro _ u' ⟨rfl, h', hO⟩
  obtain ⟨g1, g2, hB', _⟩ := h'.blk
  exact ⟨rfl, sm hu h1 h2 hO, g1, g2, hB', on2 hu hO⟩)
 rintro kv _ _ _ _ _ _ _ _ _ _ _ _ i4 i5 w5 ⟨j, rfl, hkv, hj, ⟨rfl, rfl, rfl, rfl, rfl, rfl, rfl, rfl, rfl, rfl, rfl⟩, h5⟩
 refine ⟨fun hc => ?_, fun hc => ?_⟩
 · have hc := of_decide_eq_true hc
   obtain ⟨y, hy⟩ := get_at (xs := xs) (i := j) (by omega)
   obtain ⟨ad, a1, a2, _⟩ := sp_at (kS h5) hy
   refine ⟨fun l2 i2 s0 s1 s2 l3 l4 l5 l6 i3 l7 _ _ u => SC l2 i2 s0 s1 s2 l3 l4 l5 l6 i3 l7 /\ Only [k2] w4 u, ?_, ad, a1, _, a2.part 1 fun i v hi => one_part hi rfl, (rfind_c (kS h5) (by omega) _).mono ?_⟩
   · rintro _ _ _ _ _ _ _ _ _ _ _ _ _ u ⟨hs, hu⟩
     exact ⟨kv - 1, by omega, j + 1, by rw [wr' (by omega) (by omega)]; rfl, by omega, by omega, hs, hu⟩
   rintro _ u ⟨⟨i, rfl, hi⟩, hu⟩
   obtain rfl : w5 = u := hu.symm
   refine ⟨i, rfl, Same.refl _ _, fun _ => ?_, fun _ => ⟨sc0, h5⟩⟩
   obtain ⟨p1, z, cs1, q1, q2, q3, q4, q5, q6⟩ := (kA h5).get (i := (j : Int)) (Int.natCast_nonneg j) (by have := (kA h5).len; omega)
   subst q6
   refine ⟨p1, q1, _, q5, fun hB h1 h2 => (wr2 24 z _ _ (by decide) h5 h1 h2 hB).mono ?_⟩
   rintro _ u ⟨rfl, hS, g1, g2, hB', hu⟩
   exact ⟨rfl, hS, vs, _, _, _, _, en, lv, mv, kids, _, sl, g1, g2, hB', sc0, hu⟩
 · refine ⟨fun kv i l2 i2 s0 s1 s2 l3 l4 l5 l6 i3 l7 _ _ u => ∃ j : Nat, i = (j : Int) /\ kv + j = c.vars.length /\ j <= c.vars.length /\ SC l2 i2 s0 s1 s2 l3 l4 l5 l6 i3 l7 /\ Only [k2] w4 u, c.vars.length, ⟨0, rfl, by omega, Nat.zero_le _, sc0, h5⟩, ?_⟩
   rintro kv2 _ _ _ _ _ _ _ _ _ _ _ _ i6 i7 w9 ⟨m, rfl, hkv2, hm, ⟨rfl, rfl, rfl, rfl, rfl, rfl, rfl, rfl, rfl, rfl, rfl⟩, h9⟩
   refine ⟨fun hc2 => ?_, fun hc2 hB h1 h2 => ?_⟩
   · have hc2 := of_decide_eq_true hc2
     refine ⟨fun kv i l2 i2 s0 s1 s2 l3 l4 l5 l6 i3 l7 _ _ u => ∃ j : Nat, i = (j : Int) /\ kv + j = m /\ j <= m /\ SC l2 i2 s0 s1 s2 l3 l4 l5 l6 i3 l7 /\ Only [k2] w4 u, m, ⟨0, rfl, by omega, Nat.zero_le _, sc0, h9⟩, ?_⟩
     rintro kv3 _ _ _ _ _ _ _ _ _ _ _ _ i8 i9 w10 ⟨q, rfl, hkv3, hq, ⟨rfl, rfl, rfl, rfl, rfl, rfl, rfl, rfl, rfl, rfl, rfl⟩, h10⟩
     refine ⟨fun hc3 => ?_, fun hc3 => ⟨kv2 - 1, by omega, m + 1, by rw [wr' (by omega) (by omega)]; rfl, by omega, by omega, sc0, h10⟩⟩
     have hc3 := of_decide_eq_true hc3
     have vat : ∀ {u : World} (q : Nat), Only [k2] w4 u -> q < c.vars.length -> ∃ (ad : Addr) (s : ByteArray) (a : Int), SlAt vs (q : Int) 3 ad /\ Cells u (ad.add 0) [.string s] /\ Cells u (ad.add 2) [.int .i64 a] := fun {u} q hu hq => by
      obtain ⟨ad, y, ds, g1, g2, g3, g4, g5, g6⟩ := (kV hu).get (i := (q : Int)) (Int.natCast_nonneg q) (by omega)
      have g6 : ds = [.string (T y.n), .int .i64 y.v, .int .i64 y.a] := g6
      subst g6
      exact ⟨ad, _, _, g1, g5.part 0 fun i v hi => one_part hi rfl, g5.part 2 fun i v hi => one_part hi rfl⟩
     obtain ⟨p2, s2, _, e1, e2, _⟩ := vat q h10 (by omega)
     obtain ⟨p3, s3, _, e3, e4, _⟩ := vat m h10 (by omega)
     refine ⟨fun l2 i2 s0 s1 s2 l3 l4 l5 l6 i3 l7 _ _ u => SC l2 i2 s0 s1 s2 l3 l4 l5 l6 i3 l7 /\ Only [k2] w4 u, ?_, p2, e1, _, e2, p3, e3, _, e4, fun _ => ⟨p3, e3, fun w12 hO12 => ?_⟩, fun _ w14 hO14 => ⟨sc0, h10.tr0 hO14⟩⟩
     · rintro _ _ _ _ _ _ _ _ _ _ _ _ _ u ⟨hs, hu⟩
       exact ⟨kv3 - 1, by omega, q + 1, by rw [wr' (by omega) (by omega)]; rfl, by omega, by omega, hs, hu⟩
     have h12 := h10.tr0 hO12
     obtain ⟨p4, s4, a4, e5, _, e6⟩ := vat m h12 (by omega)
     obtain rfl := SlAt.uniq e3 e5
     refine ⟨a4, e6, fun hB h1 h2 => (wr2 24 a4 _ _ (by decide) h12 h1 h2 hB).mono ?_⟩
     rintro _ u ⟨rfl, hS, g1, g2, hB', hu⟩
     exact ⟨rfl, hS, vs, _, _, _, _, en, lv, mv, kids, _, sl, g1, g2, hB', sc0, hu⟩
   · have hrt : rNd false (D + 1) w9 (fun k => k < w.heap.size) c.root NC := (rNd_ok false _).keep hr3 fun k hk hlt => (h9.block k (by omega) (by simp; omega)).trans (hO4.block k hlt (by simp))
     refine (lkall_c (G := fun k => k < w.heap.size) (fun k hk => by omega) hFo (by omega) (by omega) (D + 1) (mkLk h9 hB) hrt (by omega) (a := 0) (by omega)).mono ?_
     rintro _ w15 ⟨rfl, h15, hO15⟩
     obtain ⟨g1, g2, hB', hz⟩ := h15.blk
     exact ⟨_, rfl, sm h9 h1 h2 hO15, vs, _, _, _, _, en, lv, mv, kids, _, sl, g1, g2, hB', fun w16 hO16 _ => ⟨⟨_, _, rfl, fun e => ⟨hRt, (hz e).2⟩⟩, by
      have := ((fin (on2 h9 hO15)).trP (hO16.p (F := fun k => w.heap.size <= k) fun x hx => by simp only [List.mem_singleton] at hx; exact .inl (by omega)))
      exact this.only fun k hk => hk⟩⟩
end Go.Proofs.Ytddfmhccaapgjaa.Con
namespace Go.Proofs.Ytddfmhccaapgjaa.Con
open Go Go.RowKit Go.Kt Go.Kt.V
set_option linter.unusedSimpArgs false
set_option linter.unusedVariables false
set_option maxRecDepth 100000
mutual
theorem kd_flN (a : Nat) (pa dp : Int) : ∀ (x : Nd), kdN x -> ∀ s, s ∈ flN a pa dp x -> 1 <= s.k /\ s.k <= 4
 | .mk b l, h, s, hs => by
  rw [kdN] at h
  rw [flN, List.mem_cons] at hs
  rcases hs with rfl | hs
  · exact h.1
  · exact kd_flL _ _ _ l h.2 s hs
theorem kd_flL (a : Nat) (pa dp : Int) : ∀ (l : List Nd), kdNs l -> ∀ s, s ∈ flL a pa dp l -> 1 <= s.k /\ s.k <= 4
 | [], _, s, hs => by rw [flL] at hs; cases hs
 | x :: l, h, s, hs => by
  rw [kdNs] at h
  rw [flL, List.mem_append] at hs
  rcases hs with hs | hs
  · exact kd_flN _ _ _ x h.1 s hs
  · exact kd_flL _ _ _ l h.2 s hs
end
theorem flL_mem {y : Nd} {pa dp : Int} : ∀ {l : List Nd} (a : Nat), y ∈ l -> ∃ (j : Nat) (t : Spo), (flL a pa dp l)[j]? = some t /\ t.pa = pa /\ t.k = y.b.k
 | [], _, h => by cases h
 | .mk b ks :: l, a, h => by
  rw [flL]
  rw [List.mem_cons] at h
  rcases h with rfl | h
  · exact ⟨0, _, by rw [flN]; rfl, rfl, rfl⟩
  · obtain ⟨j, t, h1, h2⟩ := flL_mem (a + nNd (.mk b ks)) h
    exact ⟨(flN a pa dp (.mk b ks)).length + j, t, by rw [List.getElem?_append_right (by omega), Nat.add_sub_cancel_left]; exact h1, h2⟩
mutual
theorem pr_flN (a : Nat) (pa dp : Int) : ∀ (x : Nd), prN x -> ∀ (i : Nat) (s : Spo), (flN a pa dp x)[i]? = some s -> s.k = 2 -> ∃ (j : Nat) (t : Spo), (flN a pa dp x)[j]? = some t /\ t.pa = ((a + i : Nat) : Int) /\ t.k ≠ 3 /\ t.k ≠ 4
 | .mk b l, h, i, s, hs, hk => by
  rw [prN] at h
  rw [flN] at hs ⊢
  cases i with
  | zero =>
   rw [List.getElem?_cons_zero, Option.some.injEq] at hs
   subst hs
   obtain ⟨y, hy, h3, h4⟩ := h.1 hk
   obtain ⟨j, t, g1, g2, g3⟩ := flL_mem (pa := (a : Int)) (dp := dp + 1) (a + 1) hy
   exact ⟨j + 1, t, by rw [List.getElem?_cons_succ]; exact g1, g2, by rw [g3]; exact h3, by rw [g3]; exact h4⟩
  | succ i =>
   rw [List.getElem?_cons_succ] at hs
   obtain ⟨j, t, g1, g2, g3⟩ := pr_flL (a + 1) a (dp + 1) l h.2 i s hs hk
   exact ⟨j + 1, t, by rw [List.getElem?_cons_succ]; exact g1, by rw [g2]; congr 1; omega, g3⟩
theorem pr_flL (a : Nat) (pa dp : Int) : ∀ (l : List Nd), prNs l -> ∀ (i : Nat) (s : Spo), (flL a pa dp l)[i]? = some s -> s.k = 2 -> ∃ (j : Nat) (t : Spo), (flL a pa dp l)[j]? = some t /\ t.pa = ((a + i : Nat) : Int) /\ t.k ≠ 3 /\ t.k ≠ 4
 | [], _, i, s, hs, _ => by rw [flL] at hs; cases hs
 | x :: l, h, i, s, hs, hk => by
  rw [prNs] at h
  rw [flL] at hs ⊢
  have hlen := flN_len a pa dp x
  by_cases hi : i < (flN a pa dp x).length
  · rw [List.getElem?_append_left hi] at hs
    obtain ⟨j, t, g1, g2⟩ := pr_flN a pa dp x h.1 i s hs hk
    exact ⟨j, t, by rw [List.getElem?_append_left (List.getElem?_eq_some_iff.1 g1).1]; exact g1, g2⟩
  · rw [List.getElem?_append_right (by omega)] at hs
    obtain ⟨j, t, g1, g2, g3⟩ := pr_flL (a + nNd x) pa dp l h.2 _ s hs hk
    exact ⟨(flN a pa dp x).length + j, t, by rw [List.getElem?_append_right (by omega), Nat.add_sub_cancel_left]; exact g1, by rw [g2]; congr 1; omega, g3⟩
end
theorem sd_flat {c : Ch} (hR : RtC c) (hp : prN c.root) : Sd (flatC c) := by
 obtain ⟨h1, h2, h3⟩ := hR
 have hk : ∀ (i : Nat) (s : Spo), (flatC c)[i]? = some s -> 1 <= s.k /\ s.k <= 4 := fun i s hs => kd_flN 0 (-1) 0 c.root h2 s (List.mem_of_getElem? hs)
 have hlen : (flatC c).length = nNd c.root := by unfold flatC; rw [flN_len]
 refine ⟨fo_flat c, by omega, hk, ?_, fun i s hs hk2 => ?_⟩
 · obtain ⟨vv, ⟨b, l⟩⟩ := c
   exact ⟨_, by unfold flatC; rw [flN]; rfl, h3⟩
 · obtain ⟨j, t, g1, g2, g3, g4⟩ := pr_flN 0 (-1) 0 c.root hp i s hs hk2
   have g1 : (flatC c)[j]? = some t := g1
   have hkt := hk j t g1
   have : (j : Int) ∈ regs (flatC c) i := mem_regs.2 ⟨j, t, rfl, g1, by rw [g2]; omega, by
    unfold stK
    rw [Bool.or_eq_true, beq_iff_eq, beq_iff_eq]
    omega⟩
   intro e
   rw [e] at this
   cases this
end Go.Proofs.Ytddfmhccaapgjaa.Con
namespace Go.Proofs.Ytddfmhccaapgjaa.Con
open Go Go.RowKit Go.Kt Go.Kt.V Go.Proofs.Ytddfmhccaapgjaa.Vc
set_option linter.unusedSimpArgs false
set_option linter.unusedVariables false
set_option maxHeartbeats 800000
set_option maxRecDepth 100000
theorem sameI_c {w : World} {F G : Nat -> Prop} {sa sb : Sl} {l m : List Int} (ha : SliceF rInt 1 w F sa l) (hb : SliceF rInt 1 w G sb m) : Calls Try.prog 11 #[sa.v, sb.v] w fun e w' => e = .returned (.bool (decide (l = m))) /\ Only [] w w' := by
 refine ret (v19w sa sb (fun v w' => v = .bool (decide (l = m)) /\ Only [] w w') w ?_)
 unfold v19v
 have h1 := ha.len
 have h2 := hb.len
 have h3 := ha.big
 have h4 := ha.cap
 refine ⟨fun hc => ⟨by rw [decide_eq_false]; rintro rfl; simp only [bne_iff_ne] at hc; omega, Only.refl _ _⟩, fun hc => ?_⟩
 have hc : (sa.n : Int) = sb.n := by simpa using hc
 refine ⟨fun kv i u => ∃ j : Nat, i = (j : Int) /\ kv + j = l.length /\ j <= l.length /\ l.take j = m.take j /\ Only [] w u, l.length, ⟨0, rfl, by omega, Nat.zero_le _, by simp, Only.refl _ _⟩, ?_⟩
 rintro kv _ u ⟨j, rfl, hkv, hj, he, hO⟩
 refine ⟨fun hc1 => ?_, fun hc1 => ?_⟩
 · have hc1 := of_decide_eq_true hc1
   have hjl : j < l.length := by omega
   have hjm : j < m.length := by omega
   obtain ⟨ad, a1, a2⟩ := int_at (kI ha hO) (List.getElem?_eq_getElem hjl)
   obtain ⟨ad', b1, b2⟩ := int_at (kI hb hO) (List.getElem?_eq_getElem hjm)
   refine ⟨ad, a1, _, a2, ad', b1, _, b2, fun hn w1 hO1 => ⟨?_, hO.tr0 hO1⟩, fun hn w2 hO2 => ⟨kv - 1, by omega, j + 1, by rw [wr' (by omega) (by omega)]; rfl, by omega, by omega, ?_, hO.tr0 hO2⟩⟩
   · rw [decide_eq_false]
     rintro rfl
     simp at hn
   · rw [List.take_add_one, List.take_add_one, he, List.getElem?_eq_getElem hjl, List.getElem?_eq_getElem hjm]
     have : l[j] = m[j] := by simpa using hn
     rw [this]
 · have hc1 := of_decide_eq_false hc1
   rw [List.take_of_length_le (by omega), List.take_of_length_le (by omega)] at he
   exact ⟨by rw [he, decide_eq_true rfl], hO⟩
def RowC (w : World) (s : Sl) : Prop := s.c <= 9223372036854775807 /\ (s.c = 0 ∨ ∃ (g t : Nat) (ys : List Value), s.a = some ⟨g, 0, none⟩ /\ Blk w g t ys /\ ys.length = s.c)
theorem OwnI.rowC {B : Nat} {w : World} {s : Sl} {l : List Int} (h : OwnI B w s l) : RowC w s := by
 rcases h.nilOr with ⟨rfl, _⟩ | ⟨g, hg⟩
 · exact ⟨by decide, .inl rfl⟩
 · obtain ⟨tail, h1, h2, h3, h4, h5, h6, h7⟩ := h.cells hg
   exact ⟨h6, .inr ⟨g, _, _, hg, h2, by rw [List.length_append, List.length_map]; omega⟩⟩
theorem rowC_nil (w : World) : RowC w Sl.nil := ⟨by decide, .inl rfl⟩
theorem RowC.only {w u : World} {s : Sl} (h : RowC w s) {bs : List Nat} (hO : Only bs w u) (hb : ∀ g, s.a = some ⟨g, 0, none⟩ -> g ∉ bs) : RowC u s := by
 refine ⟨h.1, ?_⟩
 rcases h.2 with h | ⟨g, t, ys, h1, h2, h3⟩
 · exact .inl h
 · exact .inr ⟨g, t, ys, h1, hO.blk h2 (hb g h1), h3⟩
theorem cut_all (s : Sl) : s.cut 0 s.c s.c 1 = ⟨s.a, s.c, s.c⟩ := by
 unfold Sl.cut
 rw [Nat.sub_zero]
 congr 1
 split
 · rfl
 · cases s.a <;> rfl
theorem ownInts_c {w : World} {a b : Sl} (ha : RowC w a) (hb : RowC w b) (hd : ∀ g, a.a = some ⟨g, 0, none⟩ -> b.a ≠ some ⟨g, 0, none⟩) :
  Calls Try.prog 14 #[a.v, b.v] w fun e w' => e = .returned (.bool true) /\ OnlyP (fun k => a.a = some ⟨k, 0, none⟩ ∨ b.a = some ⟨k, 0, none⟩) w w' /\ RowC w' a /\ RowC w' b := by
 refine ret (v14w a b (fun v w' => v = .bool true /\ OnlyP (fun k => a.a = some ⟨k, 0, none⟩ ∨ b.a = some ⟨k, 0, none⟩) w w' /\ RowC w' a /\ RowC w' b) w ?_)
 unfold v14v
 have hac := ha.1
 have hbc := hb.1
 let Qa : Nat -> Prop := fun k => a.a = some ⟨k, 0, none⟩
 let Qb : Nat -> Prop := fun k => b.a = some ⟨k, 0, none⟩
 let Z : Nat -> World -> Prop := fun j u => ∀ g, a.a = some ⟨g, 0, none⟩ -> ∃ (t : Nat) (ys : List Value), Blk u g t ys /\ ys.length = a.c /\ ∀ i, i < j -> ys[i]? = some (.int .i64 (-7))
 have at_ : ∀ {s : Sl} {j : Nat} {g : Nat}, s.a = some ⟨g, 0, none⟩ -> j < s.c -> SlAt ⟨s.a, s.c, s.c⟩ (j : Int) 1 ⟨g, j, none⟩ := fun {s j g} hg hj => ⟨_, hg, by omega, by show (j : Int) < (s.c : Int); omega, by rw [addr_lit, Int.toNat_natCast]; simp⟩
 have z0 : 0 < a.c -> Z 0 w := fun h0 g hg => by
  rcases ha.2 with h | ⟨g', t, ys, h1, h2, h3⟩
  · omega
  · rw [h1] at hg
    injection hg with hg
    injection hg with hg
    subst hg
    exact ⟨t, ys, h2, h3, fun i hi => by omega⟩
 have aa : 0 < a.c -> ∃ g, a.a = some ⟨g, 0, none⟩ := fun h0 => by
  rcases ha.2 with h | ⟨g', t, ys, h1, h2, h3⟩
  · omega
  · exact ⟨g', h1⟩
 refine ⟨a.c, ⟨rfl, Nat.le_refl _⟩, fun kv i u => ∃ j : Nat, i = (j : Int) /\ kv + j = a.c /\ j <= a.c /\ (0 < a.c -> Z j u) /\ OnlyP Qa w u, a.c, ⟨0, rfl, by omega, Nat.zero_le _, z0, OnlyP.refl _ _⟩, ?_⟩
 rw [cut_all]
 rintro kv _ u ⟨j, rfl, hkv, hj, hZ, hO⟩
 refine ⟨fun hc => ?_, fun hc => ?_⟩
 · have hc : (j : Int) < a.c := of_decide_eq_true hc
   obtain ⟨g, hg⟩ := aa (by omega)
   obtain ⟨t, ys, h1, h2, h3⟩ := hZ (by omega) g hg
   refine ⟨_, at_ hg (by omega), g, j, ys, t, rfl, h1, by omega, fun w1 hO1 hB1 => ⟨kv - 1, by omega, j + 1, by rw [wr' (by omega) (by omega)]; rfl, by omega, by omega, fun _ g' hg' => ?_, hO.trans (hO1.p (F := Qa) fun x hx => by simp only [List.mem_singleton] at hx; subst hx; exact .inl hg) fun k hk => .inl hk⟩⟩
   rw [hg] at hg'
   injection hg' with hg'
   injection hg' with hg'
   subst hg'
   rw [splice_one (by omega)] at hB1
   refine ⟨t, _, hB1, by rw [List.length_set]; exact h2, fun i hi => ?_⟩
   by_cases hij : i = j
   · subst hij
     rw [List.getElem?_set_self (by omega)]
   · rw [List.getElem?_set_ne (fun e => hij e.symm)]
     exact h3 i (by omega)
 have hc : ¬ (j : Int) < a.c := of_decide_eq_false hc
 have hja : j = a.c := by omega
 subst hja
 have bb : 0 < b.c -> ∃ g, b.a = some ⟨g, 0, none⟩ /\ ∃ (t : Nat) (ys : List Value), Blk u g t ys /\ ys.length = b.c := fun h0 => by
  rcases hb.2 with h | ⟨g, t, ys, h1, h2, h3⟩
  · omega
  · exact ⟨g, h1, t, ys, hO.blk h2 (fun hh => hd g hh h1), h3⟩
 refine ⟨b.c, ⟨rfl, Nat.le_refl _⟩, fun kv i v => ∃ j : Nat, i = (j : Int) /\ kv + j = b.c /\ j <= b.c /\ (0 < b.c -> ∃ g, b.a = some ⟨g, 0, none⟩ /\ ∃ (t : Nat) (ys : List Value), Blk v g t ys /\ ys.length = b.c) /\ OnlyP Qb u v, b.c, ⟨0, rfl, by omega, Nat.zero_le _, bb, OnlyP.refl _ _⟩, ?_⟩
 rw [cut_all]
 rintro kv2 _ v ⟨i, rfl, hkv2, hi, hY, hO2⟩
 refine ⟨fun hc2 => ?_, fun hc2 => ?_⟩
 · have hc2 : (i : Int) < b.c := of_decide_eq_true hc2
   obtain ⟨g, hg, t, ys, h1, h2⟩ := hY (by omega)
   refine ⟨_, at_ hg (by omega), g, i, ys, t, rfl, h1, by omega, fun w1 hO1 hB1 => ⟨kv2 - 1, by omega, i + 1, by rw [wr' (by omega) (by omega)]; rfl, by omega, by omega, fun _ => ⟨g, hg, t, _, hB1, ?_⟩, hO2.trans (hO1.p (F := Qb) fun x hx => by simp only [List.mem_singleton] at hx; subst hx; exact .inl hg) fun k hk => .inl hk⟩⟩
   rw [splice_one (by omega), List.length_set]
   exact h2
 have hfin : OnlyP (fun k => a.a = some ⟨k, 0, none⟩ ∨ b.a = some ⟨k, 0, none⟩) w v := (hO.mono (G := fun k => a.a = some ⟨k, 0, none⟩ ∨ b.a = some ⟨k, 0, none⟩) fun k _ hk => .inl hk).trans hO2 fun k hk => .inl (.inr hk)
 refine ⟨fun kv i x => ∃ j : Nat, i = (j : Int) /\ kv + j = a.c /\ j <= a.c /\ v = x, a.c, ⟨0, rfl, by omega, Nat.zero_le _, rfl⟩, ?_⟩
 rintro kv3 _ _ ⟨m, rfl, hkv3, hm, rfl⟩
 have fa : RowC v a := by
  refine ⟨hac, ?_⟩
  by_cases h0 : 0 < a.c
  · obtain ⟨g, hg⟩ := aa h0
    obtain ⟨t, ys, h1, h2, h3⟩ := hZ h0 g hg
    exact .inr ⟨g, t, ys, hg, hO2.blk h1 (fun hh => hd g hg hh), h2⟩
  · exact .inl (by omega)
 have fb : RowC v b := by
  refine ⟨hbc, ?_⟩
  by_cases h0 : 0 < b.c
  · obtain ⟨g, hg, t, ys, h1, h2⟩ := hY h0
    exact .inr ⟨g, t, ys, hg, h1, h2⟩
  · exact .inl (by omega)
 refine ⟨fun hc3 => ?_, fun _ => ⟨rfl, hfin, fa, fb⟩⟩
 have hc3 : (m : Int) < a.c := of_decide_eq_true hc3
 obtain ⟨g, hg⟩ := aa (by omega)
 obtain ⟨t, ys, h1, h2, h3⟩ := hZ (by omega) g hg
 have h1' := hO2.blk h1 (fun hh => hd g hg hh)
 refine ⟨_, at_ hg (by omega), -7, ?_, fun hn => absurd hn (by decide), fun _ => ⟨kv3 - 1, by omega, m + 1, by rw [wr' (by omega) (by omega)]; rfl, by omega, by omega, rfl⟩⟩
 refine h1'.cells m _ fun j v hj => ?_
 cases j with
 | zero =>
  simp only [List.getElem?_cons_zero, Option.some.injEq] at hj
  subst hj
  exact h3 m (by omega)
 | succ j => simp at hj
end Go.Proofs.Ytddfmhccaapgjaa.Con
namespace Go.Proofs.Ytddfmhccaapgjaa.Con
open Go Go.RowKit Go.Kt Go.Kt.V Go.Proofs.Ytddfmhccaapgjaa.Vc
set_option linter.unusedSimpArgs false
set_option linter.unusedVariables false
set_option maxHeartbeats 1600000
set_option maxRecDepth 100000
theorem row_c {w : World} {F : Nat -> Prop} {D : Nat} {c : Ch} {vs : Sl} {cs : List Value} (hx : ChR false (D + 1) w F c vs cs) (hn : chN c) (hs : szVs c.vars + szN c.root <= 1048576) :
  Calls Try.prog 6 #[.agg (vs.v :: cs).toArray] w fun e w' => (∃ l : Sl, e = .returned l.v /\ (l.n = 0 ∨ ∃ xs, Sd xs /\ OwnSp w.heap.size w' l xs)) /\ Only [] w w' := by
 obtain ⟨en, lv, mv, kids, hcs, _⟩ := hx.root
 subst hcs
 refine (v17w vs c.root.b.k (T c.root.b.nm) (T c.root.b.ini) (T c.root.b.dft) en lv mv kids c.root.b.a (fun v w' => (∃ l : Sl, v = l.v /\ (l.n = 0 ∨ ∃ xs, Sd xs /\ OwnSp w.heap.size w' l xs)) /\ Only [] w w') w ?_).mono (by rintro _ w' ⟨v, rfl, ⟨l, rfl, h⟩, h'⟩; exact ⟨⟨l, rfl, h⟩, h'⟩)
 unfold v17v
 intro k0 w0 hk0 hk0' hO0
 have z0 := hO0.size
 have keep : ∀ {u : World}, Only [] w u -> ChR false (D + 1) u F c vs (ndv c.root.b.k c.root.b.nm c.root.b.ini c.root.b.dft en lv mv kids c.root.b.a) := fun hO => ⟨hx.vars.keep rVr_ok (by decide) fun k _ hlt => hO.block k hlt (by simp), (rNd_ok false _).keep hx.root fun k _ hlt => hO.block k hlt (by simp)⟩
 refine (rcheck_c (keep hO0) hn hs).mono ?_
 rintro _ w1 ⟨⟨er, a, rfl, he⟩, hO1⟩
 have z1 := hO1.size
 have o1 := hO0.tr0 hO1
 refine ⟨er, a, rfl, hO1.same (by simp; omega), fun hc k1 w2 _ _ hO2 => ⟨⟨Sl.nil, rfl, .inl rfl⟩, o1.tr0 hO2⟩, fun hc k2 w3 hk2 hk2' hO3 => ?_⟩
 have hc : er = 0 := by simpa using hc
 obtain ⟨hR, hp⟩ := he hc
 have z3 := hO3.size
 refine (rLay_c (keep (o1.tr0 hO3)) hR.1).mono ?_
 rintro _ w4 ⟨⟨l, rfl, hS⟩, hO4⟩
 exact ⟨l, rfl, hO4.same (by simp; omega), ⟨l, rfl, .inr ⟨_, sd_flat hR hp, Own.low hS (by omega)⟩⟩, (o1.tr0 hO3).tr0 hO4⟩
def sm0 : List Spo := [⟨1, [99], -1, 0, 3⟩, ⟨1, [97], 0, 1, 2⟩, ⟨1, [98], 0, 1, 3⟩]
def smC : Ch := ⟨[], .mk ⟨1, [99], [], [], [], [], [], 0⟩ [.mk ⟨1, [97], [], [], [], [], [], 0⟩ [], .mk ⟨1, [98], [], [], [], [], [], 0⟩ []]⟩
theorem sm_flat : flatC smC = sm0 := rfl
theorem sm_sd : Sd sm0 := by
 rw [<- sm_flat]
 refine sd_flat ⟨by decide, ?_, rfl⟩ ?_
 · simp only [smC, kdN, kdNs]
   decide
 · simp only [smC, prN, prNs]
   refine ⟨fun h => absurd h (by decide), ⟨fun h => absurd h (by decide), trivial⟩, ⟨fun h => absurd h (by decide), trivial⟩, trivial⟩
def lgB (act : List Int) : Bool := decide (act.Pairwise (· < ·)) && ((vis sm0 act 3 0).all fun m => onOk sm0 act m.toNat) && ((vis sm0 act 3 0).length == act.length)
theorem lgB_iff {act : List Int} (h0 : act[0]? = some 0) : lgB act = true ↔ Lg sm0 act := by
 rw [<- sm_sd.legal_iff h0 3 (by decide)]
 unfold lgB
 rw [Bool.and_eq_true, Bool.and_eq_true, decide_eq_true_eq, List.all_eq_true, beq_iff_eq, and_assoc]
theorem litSp (u : World) : ∃ y w1, (Instr.buildSlice 32 3 #[.mk 0 (.agg #[.int .i64 1, .string (ByteArray.mk #[99]), .int .i64 (-1), .int .i64 0, .int .i64 3]), .mk 1 (.agg #[.int .i64 1, .string (ByteArray.mk #[97]), .int .i64 0, .int .i64 1, .int .i64 2]), .mk 2 (.agg #[.int .i64 1, .string (ByteArray.mk #[98]), .int .i64 0, .int .i64 1, .int .i64 3])]).run Try.prog u = .ok (Sl.v y) w1 /\ Only [] u w1 /\ SliceF rSp 5 w1 (fun _ => True) y sm0 := by
 obtain ⟨y, w1, k1, k2, k3, _⟩ := build_own (P := Try.prog) (t := 32) (e := 44) (i := Try.t44) (w := u) (F := fun _ => True) (vs := [.agg #[.int .i64 1, .string (ByteArray.mk #[99]), .int .i64 (-1), .int .i64 0, .int .i64 3], .agg #[.int .i64 1, .string (ByteArray.mk #[97]), .int .i64 0, .int .i64 1, .int .i64 2], .agg #[.int .i64 1, .string (ByteArray.mk #[98]), .int .i64 0, .int .i64 1, .int .i64 3]]) (parts := #[.mk 0 (.agg #[.int .i64 1, .string (ByteArray.mk #[99]), .int .i64 (-1), .int .i64 0, .int .i64 3]), .mk 1 (.agg #[.int .i64 1, .string (ByteArray.mk #[97]), .int .i64 0, .int .i64 1, .int .i64 2]), .mk 2 (.agg #[.int .i64 1, .string (ByteArray.mk #[98]), .int .i64 0, .int .i64 1, .int .i64 3])]) (len := 3) (xs := sm0) (r := rSp) (size := 5) (by kernel_rfl) (by kernel_rfl) rfl rfl (by decide) rfl rfl (by decide) (by decide) rSp_ok ⟨⟨rfl, rfl⟩, ⟨rfl, rfl⟩, ⟨rfl, rfl⟩, trivial⟩
 exact ⟨y, w1, k1, k3, (k2.slice rSp_ok).mono rSp_ok fun k hk => trivial⟩
theorem lit1 (u : World) {a : Int} (ha : InI a) : ∃ y w1, (Instr.buildSlice 30 1 #[.mk 0 (.int .i64 a)]).run Try.prog u = .ok (Sl.v y) w1 /\ Only [] u w1 /\ SliceF rInt 1 w1 (fun _ => True) y [a] := by
 obtain ⟨y, w1, k1, k2, k3, _⟩ := build_own (P := Try.prog) (t := 30) (e := 3) (i := Try.t3) (w := u) (F := fun _ => True) (vs := [.int .i64 a]) (parts := #[.mk 0 (.int .i64 a)]) (len := 1) (xs := [a]) (r := rInt) (size := 1) (by kernel_rfl) (by kernel_rfl) rfl rfl (by decide) rfl rfl (by decide) (by decide) rInt_ok ⟨⟨rfl, rfl, ha⟩, trivial⟩
 exact ⟨y, w1, k1, k3, (k2.slice rInt_ok).mono rInt_ok fun k hk => trivial⟩
theorem small_c (w : World) : Calls Try.prog 5 #[] w fun e w' => e = .returned (.bool true) /\ Only [] w w' := by
 refine ret (v18w (fun v w' => v = .bool true /\ Only [] w w') w ?_)
 unfold v18v
 obtain ⟨l0, w0, a1, a2, a3⟩ := litSp w
 have hN : ∀ n : Nat, (nthW sm0 sm0.length 0 n).length <= 1000000 := fun n => Nat.le_trans (nth_len sm_sd _ 0 n (s := ⟨1, [99], -1, 0, 3⟩) rfl) (by decide)
 have hW : W sm0 0 = 2 := by kernel_rfl
 have l02 : Lg sm0 [0, 2] := (lgB_iff rfl).1 (by kernel_rfl)
 have l01 : Lg sm0 [0, 1] := (lgB_iff rfl).1 (by kernel_rfl)
 have l0 : ¬ Lg sm0 [0] := fun h => by
  have h := (lgB_iff rfl).2 h
  have e : lgB [0] = false := by kernel_rfl
  rw [e] at h
  cases h
 refine ⟨_, w0, a1, (Nth_c a3 sm_sd 1 hN).mono ?_⟩
 rintro _ w1 ⟨⟨s1, b1, is1, rfl, hS1, hb1, his1⟩, hO1⟩
 have hb1 : b1 = true := hb1.2 ⟨by decide, by rw [hW]; decide⟩
 subst hb1
 have his1 : is1 = [0, 2] := by
  rw [his1, if_pos rfl]
  kernel_rfl
 subst his1
 obtain ⟨l2, w2, b1, b2, b3⟩ := lit2 w1 (a := 0) (b := 1) ⟨by decide, by decide⟩ ⟨by decide, by decide⟩
 have o2 := a2.tr0 hO1 |>.tr0 b2
 have ka : ∀ {u : World}, Only [] w0 u -> SliceF rSp 5 u (fun _ => True) _ sm0 := fun hO => sp_u a3 hO
 refine ⟨_, _, rfl, l2, w2, b1, (Rank_c (ka (hO1.tr0 b2)) sm_sd b3 (by decide)).mono ?_⟩
 rintro _ w3 ⟨⟨k3, b3', rfl, hb3, hk3⟩, hO3⟩
 have hb3 : b3' = true := hb3.2 l01
 subst hb3
 have hk3 : k3 = 0 := by
  rw [hk3, if_pos rfl]
  kernel_rfl
 subst hk3
 have o3 := (hO1.tr0 b2).tr0 hO3
 obtain ⟨l3, w5, c1, c2, c3⟩ := lit2 w3 (a := 0) (b := 2) ⟨by decide, by decide⟩ ⟨by decide, by decide⟩
 have o5 := o3.tr0 c2
 refine ⟨_, _, rfl, fun b u => b = true /\ Only [] w u, fun b u ⟨hb, hu⟩ => ⟨by rw [hb], hu⟩, l3, w5, c1, (legal_c (ka o5) sm_sd c3 (by decide)).mono ?_⟩
 rintro _ w6 ⟨⟨r6, rfl, hr6⟩, hO6⟩
 have hr6 : r6 = true := hr6.2 l02
 subst hr6
 have o6 := o5.tr0 hO6
 refine ⟨_, rfl, fun _ => ?_, fun h => by cases h⟩
 obtain ⟨l4, w7, d1, d2, d3⟩ := lit1 w6 (a := 0) ⟨by decide, by decide⟩
 have o7 := o6.tr0 d2
 refine ⟨l4, w7, d1, (legal_c (ka o7) sm_sd d3 (by decide)).mono ?_⟩
 rintro _ w8 ⟨⟨r8, rfl, hr8⟩, hO8⟩
 have hr8 : r8 = false := by
  cases r8 with
  | false => rfl
  | true => exact absurd (hr8.1 rfl) l0
 subst hr8
 have o8 := o7.tr0 hO8
 refine ⟨_, rfl, fun _ => (Count_c (ka o8) sm_sd).mono ?_, fun h => by cases h⟩
 rintro _ w9 ⟨rfl, hO9⟩
 have o9 := o8.tr0 hO9
 have hS9 : OwnI w0.heap.size w9 s1 [0, 2] := wp_int hS1 ((((((b2).tr0 hO3).tr0 c2).tr0 hO6).tr0 d2).tr0 hO8 |>.tr0 hO9)
 obtain ⟨ad, e1, e2⟩ := int_at hS9.sl (i := 1) (x := 2) rfl
 have hsn := hS9.len
 refine ⟨_, rfl, ad, fun _ => e1, 2, fun _ => e2, ?_, a2.tr0 o9⟩
 rw [hW, hsn]
 rfl
end Go.Proofs.Ytddfmhccaapgjaa.Con
namespace Go.Proofs.Ytddfmhccaapgjaa.Con
open Go Go.RowKit Go.Kt Go.Kt.V Go.Proofs.Ytddfmhccaapgjaa.Vc Go.ChangeShapes Go.WideShapes
set_option linter.unusedSimpArgs false
set_option linter.unusedVariables false
set_option maxHeartbeats 4000000
set_option maxRecDepth 100000
theorem lift_g {D E : Type} {B : D -> Nat} {sz : E -> Nat} {Q : Nat -> E -> Prop} : ∀ (xs : List D) (o : Nat), (∀ j y, xs[j]? = some y -> ∃ e, Q (o + j) e /\ sz e <= B y) ->
  ∃ l : List E, l.length = xs.length /\ (∀ j e, l[j]? = some e -> Q (o + j) e) /\ (l.map sz).sum <= (xs.map B).sum
 | [], o, _ => ⟨[], rfl, fun j p h => by simp at h, Nat.le_refl _⟩
 | x :: xs, o, h => by
  obtain ⟨e, h1, h2⟩ := h 0 x rfl
  obtain ⟨l, h3, h4, h5⟩ := lift_g (B := B) (sz := sz) (Q := Q) xs (o + 1) fun j y hj => by
   have := h (j + 1) y hj
   rwa [Nat.add_assoc, Nat.add_comm 1 j]
  refine ⟨e :: l, by rw [List.length_cons, List.length_cons, h3], fun j p hj => ?_, ?_⟩
  · cases j with
    | zero =>
     simp only [List.getElem?_cons_zero, Option.some.injEq] at hj
     subst hj
     exact h1
    | succ j =>
     have := h4 j p hj
     rwa [Nat.add_assoc, Nat.add_comm 1 j] at this
  · rw [List.map_cons, List.sum_cons, List.map_cons, List.sum_cons]
    exact Nat.add_le_add h2 h5
theorem mem_sumN {n : Nat} : ∀ {l : List Nat}, n ∈ l -> n <= l.sum
 | [], h => by simp at h
 | x :: l, h => by
  rw [List.sum_cons]
  rcases List.mem_cons.1 h with rfl | h
  · omega
  · have := mem_sumN h; omega
theorem top_of {E : Type} (f : E -> Nat) : ∀ (l : List E), ∃ m, ∀ p, p ∈ l -> f p <= m
 | [] => ⟨0, fun p h => by simp at h⟩
 | x :: l => by
  obtain ⟨m, h⟩ := top_of f l
  refine ⟨max (f x) m, fun p hp => ?_⟩
  rcases List.mem_cons.1 hp with rfl | hp
  · exact Nat.le_max_left _ _
  · exact Nat.le_trans (h p hp) (Nat.le_max_right _ _)
theorem slMap {α β : Type} {r : Rp α} {q : Rp β} {size : Nat} {w : World} {F : Nat -> Prop} {s : Sl} {xs : List α} (f : α -> β) (h : SliceF r size w F s xs) (hf : ∀ x cs, x ∈ xs -> r w F x cs -> q w F (f x) cs) : SliceF q size w F s (xs.map f) := by
 refine ⟨by rw [List.length_map]; exact h.len, h.cap, h.nil0, h.big, fun j y hj => ?_⟩
 rw [List.getElem?_map, Option.map_eq_some_iff] at hj
 obtain ⟨x, hx, rfl⟩ := hj
 obtain ⟨bs, cs, g1, g2, g3, g4, g5⟩ := h.at_ j x hx
 exact ⟨bs, cs, g1, g2, g3, g4, hf x cs (List.mem_of_getElem? hx) g5⟩
theorem slMem {α : Type} {r : Rp α} {size : Nat} {w : World} {F : Nat -> Prop} {s : Sl} {xs : List α} (h : SliceF r size w F s xs) {x : α} (hx : x ∈ xs) : ∃ cs, r w F x cs := h.mem hx
def rXU : Rp (Ex × Nat) := fun w F x cs => rE false w F x.1 cs /\ okN x.1 /\ szX x.1 <= x.2
def rAcU : Rp (Ac × Nat) := fun w F x cs => rAc false w F x.1 cs /\ acN x.1 /\ szA x.1 <= x.2
def rMvU : Rp (Mv × Nat) := fun w F x cs => rMv false w F x.1 cs /\ mvN x.1 /\ szM x.1 <= x.2
def rVrU : Rp (Vr × Nat) := fun w F x cs => rVr w F x.1 cs /\ InI x.1.v /\ x.1.n.length + 1 <= x.2
theorem szL_sum : ∀ l : List Ex, szL l = (l.map szX).sum
 | [] => rfl
 | x :: l => by rw [szL, List.map_cons, List.sum_cons, szL_sum l]
theorem szAs_sum : ∀ l : List Ac, szAs l = (l.map szA).sum
 | [] => rfl
 | x :: l => by rw [szAs, List.map_cons, List.sum_cons, szAs_sum l]
theorem szMs_sum : ∀ l : List Mv, szMs l = (l.map szM).sum
 | [] => rfl
 | x :: l => by rw [szMs, List.map_cons, List.sum_cons, szMs_sum l]
theorem szVs_sum : ∀ l : List Vr, szVs l = (l.map fun v => v.n.length + 1).sum
 | [] => rfl
 | x :: l => by rw [szVs, List.map_cons, List.sum_cons, szVs_sum l]
theorem szNs_sum : ∀ l : List Nd, szNs l = (l.map szN).sum
 | [] => by rw [szNs]; rfl
 | x :: l => by rw [szNs, List.map_cons, List.sum_cons, szNs_sum l]
theorem sum_fst {α : Type} {f : α -> Nat} : ∀ {l : List (α × Nat)}, (∀ x, x ∈ l -> f x.1 <= x.2) -> ((l.map (·.1)).map f).sum <= (l.map fun x => x.2).sum
 | [], _ => Nat.le_refl _
 | x :: l, h => by
  rw [List.map_cons, List.map_cons, List.sum_cons, List.map_cons, List.sum_cons]
  exact Nat.add_le_add (h x (by simp)) (sum_fst fun y hy => h y (by simp [hy]))
theorem bsz (s : ByteArray) : s.data.toList.length = s.size := by rw [Array.length_toList]; rfl
section
variable {H : Type} {enc : TypeId × Value -> H} {W : World} {base : Nat} {spare : Nat -> Bool} {held : Bool} {B : DataW H -> Nat}
def rTrX (enc : TypeId × Value -> H) (W : World) (base : Nat) (spare : Nat -> Bool) (held : Bool) (t : TypeId) : Rp (DataW H) := fun _ _ x cs => ∃ fuel p, DataW.trod enc Try.prog W base spare held fuel t cs = some (x, p) /\ ∀ n, n ∈ x.weights Try.prog t -> n <= reachBytes
theorem opensB_t (hB : IsBulk B) (t : TypeId) : OpensB B enc Try.prog W base spare held t (rTrX enc W base spare held t) B := fun fuel cs x h hw => ⟨x.1, ⟨fuel, x.2, h, hw⟩, Nat.le_refl _⟩
theorem opens1_ex (hB : IsBulk B) : OpensB B enc Try.prog W base spare held 96 (rPair rInt (rPair rInt (rPair rStr (rPair rInt (rPair (rSl (rTrX enc W base spare held 96) 6 72) (rPair rInt rUnit))))))
  fun x => (1 + (1 + ((x.2.2.1.size + 1) + (1 + (((x.2.2.2.2.1.map B).sum + 1) + (1 + 0)))))) + 1 := by
 have h := opensB_struct (enc := enc) (P := Try.prog) (W := W) (base := base) (spare := spare) (held := held) (T := 6) hB Try.underlying96 (by kernel_rfl)
   (foB_cons (s := 1) rfl (by kernel_rfl) (opensB_of hB (opens_int Try.underlying3)) (foB_cons (s := 1) rfl (by kernel_rfl) (opensB_of hB (opens_int Try.underlying3)) (foB_cons (s := 1) rfl (by kernel_rfl) (opensB_str hB Try.underlying9) (foB_cons (s := 1) rfl (by kernel_rfl) (opensB_of hB (opens_int Try.underlying3)) (foB_cons (s := 1) rfl (by kernel_rfl) (opensB_slice (size := 6) (bytes := 72) hB Try.underlying94 (by kernel_rfl) (by kernel_rfl) (opensB_t hB _)) (foB_cons (s := 1) rfl (by kernel_rfl) (opensB_of hB (opens_int Try.underlying3)) (foB_nil rfl)))))))
 exact h
theorem exU_of (hB : IsBulk B) : ∀ (N : Nat) {x : DataW H} {cs : List Value} {F : Nat -> Prop}, B x <= N -> rTrX enc W base spare held 96 W F x cs -> ∃ (e : Ex) (d : Nat), rXg false d W (fun _ => True) e cs /\ okN e /\ szX e <= B x
 | 0, x, cs, F, h, _ => by have := hB.one x; omega
 | N + 1, x, cs, F, h, ⟨fuel, p, ht, hw⟩ => by
  obtain ⟨⟨k, n, s, op, xs, a, u⟩, hr, hm⟩ := opens1_ex (enc := enc) (W := W) (base := base) (spare := spare) (held := held) hB fuel cs (x, p) ht hw
  obtain ⟨c1, r1, rfl, ⟨rfl, i1⟩, c2, r2, rfl, ⟨rfl, i2⟩, c3, r3, rfl, ⟨rfl, i3⟩, c4, r4, rfl, ⟨rfl, i4⟩, c5, r5, rfl, ⟨sl, rfl, hsl, _⟩, c6, r6, rfl, ⟨rfl, i6⟩, hu⟩ := hr
  have hu : r6 = [] := hu
  subst hu
  dsimp only at hm hsl i1 i2 i3
  have hsum : ∀ y, y ∈ xs -> B y <= (xs.map B).sum := fun y hy => mem_sumN (List.mem_map_of_mem hy)
  obtain ⟨l, l1, l2, l3⟩ := lift_g (B := B) (sz := fun e : Ex × Nat => szX e.1) (Q := fun j e => ∃ base cs, sl.a = some base /\ cs.length = 6 /\ Cells W (base.add (j * 6)) cs /\ rXg false e.2 W (fun _ => True) e.1 cs /\ okN e.1) xs 0 fun j y hj => by
   rw [Nat.zero_add]
   obtain ⟨bs, ds, g1, g2, g3, g4, g5⟩ := hsl.at_ j y hj
   obtain ⟨e, d, t1, t2, t3⟩ := exU_of hB N (x := y) (by have := hsum y (List.mem_of_getElem? hj); omega) g5
   exact ⟨(e, d), ⟨bs, ds, g1, g3, g4, t1, t2⟩, t3⟩
  obtain ⟨m, hmx⟩ := top_of (fun e : Ex × Nat => e.2) l
  refine ⟨.mk k n s.data.toList op (l.map (·.1)) a, m + 1, ⟨sl, ?_, ?_, fun h => (by cases h)⟩, fun d => ?_, ?_⟩
  · have e : exv k n s.data.toList op sl a = [.int .i64 k, .int .i64 n, .string s, .int .i64 op, sl.v, .int .i64 a] := by
     show [_, _, Value.string (T s.data.toList), _, _, _] = _
     rw [<- T_of s]
    exact e.symm
  · refine ⟨by rw [Ex.subs, List.length_map, l1]; exact hsl.len, hsl.cap, hsl.nil0, hsl.big, fun j e hj => ?_⟩
    rw [Ex.subs, List.getElem?_map, Option.map_eq_some_iff] at hj
    obtain ⟨q, q1, rfl⟩ := hj
    obtain ⟨bs, ds, g1, g2, g3, g4, g5⟩ := l2 j q q1
    rw [Nat.zero_add] at g3
    exact ⟨bs, ds, g1, trivial, g2, g3, rXg_le (hmx q (List.mem_of_getElem? q1)) g4⟩
  · cases d with
    | zero => trivial
    | succ d =>
     refine ⟨i2, fun y hy => ?_⟩
     obtain ⟨q, q1, rfl⟩ := List.mem_map.1 hy
     obtain ⟨j, hj⟩ := List.getElem?_of_mem q1
     obtain ⟨bs, ds, g1, g2, g3, g4, g5⟩ := l2 j q hj
     exact g5 d
  · rw [szX_eq]
    show szL (l.map (·.1)) + (s.data.toList.length + 1) <= _
    rw [szL_sum, List.map_map, bsz]
    have e : (l.map (szX ∘ fun x => x.1)).sum = (l.map fun e : Ex × Nat => szX e.1).sum := rfl
    omega
theorem opensB_xu (hB : IsBulk B) : OpensB B enc Try.prog W base spare held 96 rXU fun x => x.2 := fun fuel cs x h hw => by
 obtain ⟨e, d, h1, h2, h3⟩ := exU_of hB (B x.1) (x := x.1) (F := fun _ => True) (Nat.le_refl _) ⟨fuel, x.2, h, hw⟩
 exact ⟨(e, B x.1), ⟨⟨d, h1⟩, h2, h3⟩, Nat.le_refl _⟩
theorem opensB_ac (hB : IsBulk B) : OpensB B enc Try.prog W base spare held 113 rAcU fun x => x.2 := by
 have h := opensB_struct (enc := enc) (P := Try.prog) (W := W) (base := base) (spare := spare) (held := held) (T := 9) hB Try.underlying113 (by kernel_rfl)
   (foB_cons (s := 1) rfl (by kernel_rfl) (opensB_of hB (opens_int Try.underlying3)) (foB_cons (s := 1) rfl (by kernel_rfl) (opensB_str hB Try.underlying9) (foB_cons (s := 6) rfl (by kernel_rfl) (opensB_xu hB) (foB_cons (s := 1) rfl (by kernel_rfl) (opensB_of hB (opens_int Try.underlying3)) (foB_nil rfl)))))
 refine h.map (fun x => ((⟨x.1, x.2.1.data.toList, x.2.2.1.1, x.2.2.2.1⟩ : Ac), x.2.2.1.2 + (x.2.1.size + 1))) ?_
 rintro ⟨k, n, ⟨e, m⟩, a, u⟩ cs ⟨c1, r1, rfl, ⟨rfl, i1⟩, c2, r2, rfl, ⟨rfl, i2⟩, c3, r3, rfl, ⟨he, hn, hz⟩, c4, r4, rfl, ⟨rfl, i4⟩, hu⟩
 have hu : r4 = [] := hu
 subst hu
 refine ⟨⟨⟨c3, ?_, he⟩, hn, ?_⟩, by dsimp only; omega⟩
 · show _ = _ :: Value.string (T n.data.toList) :: _
   rw [<- T_of n]
   simp
 · show szX e + (n.data.toList.length + 1) <= _
   rw [bsz]
   dsimp only at hz ⊢
   omega
theorem acs_of {w : World} {F : Nat -> Prop} {s : Sl} {xs : List (Ac × Nat)} (h : SliceF rAcU 9 w F s xs) : SlG false (rAc false) 9 113 w F s (xs.map (·.1)) /\ (∀ a, a ∈ xs.map (·.1) -> acN a) /\ szAs (xs.map (·.1)) <= (xs.map fun x => x.2).sum := by
 refine ⟨⟨slMap (·.1) h fun x cs _ hx => hx.1, fun h => (by cases h)⟩, fun a ha => ?_, ?_⟩
 · obtain ⟨x, hx, rfl⟩ := List.mem_map.1 ha
   obtain ⟨cs, hc⟩ := slMem h hx
   exact hc.2.1
 · rw [szAs_sum]
   exact sum_fst fun x hx => by
    obtain ⟨cs, hc⟩ := slMem h hx
    exact hc.2.2
theorem opensB_mv (hB : IsBulk B) : OpensB B enc Try.prog W base spare held 99 rMvU fun x => x.2 := by
 have h := opensB_struct (enc := enc) (P := Try.prog) (W := W) (base := base) (spare := spare) (held := held) (T := 13) hB Try.underlying99 (by kernel_rfl)
   (foB_cons (s := 1) rfl (by kernel_rfl) (opensB_of hB (opens_int Try.underlying3)) (foB_cons (s := 1) rfl (by kernel_rfl) (opensB_str hB Try.underlying9) (foB_cons (s := 1) rfl (by kernel_rfl) (opensB_of hB (opens_int Try.underlying3)) (foB_cons (s := 1) rfl (by kernel_rfl) (opensB_of hB (opens_bool Try.underlying4)) (foB_cons (s := 6) rfl (by kernel_rfl) (opensB_xu hB)
   (foB_cons (s := 1) rfl (by kernel_rfl) (opensB_slice (size := 9) (bytes := 104) hB Try.underlying23 (by kernel_rfl) (by kernel_rfl) (opensB_ac hB)) (foB_cons (s := 1) rfl (by kernel_rfl) (opensB_slice (size := 1) (bytes := 16) hB Try.underlying97 (by kernel_rfl) (by kernel_rfl) (opensB_str hB Try.underlying9)) (foB_cons (s := 1) rfl (by kernel_rfl) (opensB_of hB (opens_int Try.underlying3)) (foB_nil rfl)))))))))
 refine h.map (fun x => ((⟨x.1, x.2.1.data.toList, x.2.2.1, x.2.2.2.1, x.2.2.2.2.1.1, x.2.2.2.2.2.1.map (·.1), x.2.2.2.2.2.2.1.map fun s => s.data.toList, x.2.2.2.2.2.2.2.1⟩ : Mv), (((x.2.2.2.2.2.1.map fun x => x.2).sum + x.2.2.2.2.1.2) + ((x.2.2.2.2.2.2.1.map fun s => s.size + 1).sum + (x.2.1.size + 1))))) ?_
 rintro ⟨k, ev, wt, gd, ⟨g, m⟩, ac, tg, a, u⟩ cs ⟨c1, r1, rfl, ⟨rfl, i1⟩, c2, r2, rfl, ⟨rfl, i2⟩, c3, r3, rfl, ⟨rfl, i3⟩, c4, r4, rfl, h4, c5, r5, rfl, ⟨he, hn, hz⟩, c6, r6, rfl, ⟨asl, rfl, hac, _⟩, c7, r7, rfl, ⟨tsl, rfl, htg, _⟩, c8, r8, rfl, ⟨rfl, i8⟩, hu⟩
 have hu : r8 = [] := hu
 have h4 : c4 = [.bool gd] := h4
 subst hu h4
 obtain ⟨a1, a2, a3⟩ := acs_of hac
 have htg' : SliceF rTx 1 W (fun _ => True) tsl (tg.map fun s => s.data.toList) := slMap (fun s => s.data.toList) htg fun x cs _ hx => by
  obtain ⟨rfl, _⟩ := hx
  show _ = [Value.string (T x.data.toList)]
  rw [<- T_of x]
 refine ⟨⟨⟨c5, asl, tsl, ?_, he, a1, ⟨htg', fun h => (by cases h)⟩⟩, ⟨hn, a2, i3⟩, ?_⟩, by dsimp only; omega⟩
 · show _ = _ :: Value.string (T ev.data.toList) :: _
   rw [<- T_of ev]
   simp
 · show (szAs (ac.map (·.1)) + szX g) + (szT (tg.map fun s => s.data.toList) + (ev.data.toList.length + 1)) <= _
   have e : szT (tg.map fun s => s.data.toList) = (tg.map fun s => s.size + 1).sum := by
    unfold szT
    rw [List.map_map]
    congr 1
   rw [e, bsz]
   dsimp only at hz a3 ⊢
   omega
theorem mvs_of {w : World} {F : Nat -> Prop} {s : Sl} {xs : List (Mv × Nat)} (h : SliceF rMvU 13 w F s xs) : SlG false (rMv false) 13 99 w F s (xs.map (·.1)) /\ (∀ a, a ∈ xs.map (·.1) -> mvN a) /\ szMs (xs.map (·.1)) <= (xs.map fun x => x.2).sum := by
 refine ⟨⟨slMap (·.1) h fun x cs _ hx => hx.1, fun h => (by cases h)⟩, fun a ha => ?_, ?_⟩
 · obtain ⟨x, hx, rfl⟩ := List.mem_map.1 ha
   obtain ⟨cs, hc⟩ := slMem h hx
   exact hc.2.1
 · rw [szMs_sum]
   exact sum_fst fun x hx => by
    obtain ⟨cs, hc⟩ := slMem h hx
    exact hc.2.2
theorem opensB_vr (hB : IsBulk B) : OpensB B enc Try.prog W base spare held 71 rVrU fun x => x.2 := by
 have h := opensB_struct (enc := enc) (P := Try.prog) (W := W) (base := base) (spare := spare) (held := held) (T := 3) hB Try.underlying71 (by kernel_rfl)
   (foB_cons (s := 1) rfl (by kernel_rfl) (opensB_str hB Try.underlying9) (foB_cons (s := 1) rfl (by kernel_rfl) (opensB_of hB (opens_int Try.underlying3)) (foB_cons (s := 1) rfl (by kernel_rfl) (opensB_of hB (opens_int Try.underlying3)) (foB_nil rfl))))
 refine h.map (fun x => ((⟨x.1.data.toList, x.2.1, x.2.2.1⟩ : Vr), x.1.size + 1)) ?_
 rintro ⟨n, v, a, u⟩ cs ⟨c1, r1, rfl, ⟨rfl, i1⟩, c2, r2, rfl, ⟨rfl, i2⟩, c3, r3, rfl, ⟨rfl, i3⟩, hu⟩
 have hu : r3 = [] := hu
 subst hu
 refine ⟨⟨?_, i2, ?_⟩, by dsimp only; omega⟩
 · show _ = [Value.string (T n.data.toList), _, _]
   rw [<- T_of n]
   rfl
 · show n.data.toList.length + 1 <= _
   rw [bsz]
   exact Nat.le_refl _
theorem opens1_nd (hB : IsBulk B) : OpensB B enc Try.prog W base spare held 27 (rPair rInt (rPair rStr (rPair rStr (rPair rStr (rPair (rSl rAcU 9 104) (rPair (rSl rAcU 9 104) (rPair (rSl rMvU 13 168) (rPair (rSl (rTrX enc W base spare held 27) 9 160) (rPair rInt rUnit)))))))))
  fun x => (1 + ((x.2.1.size + 1) + ((x.2.2.1.size + 1) + ((x.2.2.2.1.size + 1) + (((x.2.2.2.2.1.map fun x => x.2).sum + 1) + (((x.2.2.2.2.2.1.map fun x => x.2).sum + 1) + (((x.2.2.2.2.2.2.1.map fun x => x.2).sum + 1) + (((x.2.2.2.2.2.2.2.1.map B).sum + 1) + (1 + 0))))))))) + 1 := by
 have h := opensB_struct (enc := enc) (P := Try.prog) (W := W) (base := base) (spare := spare) (held := held) (T := 9) hB Try.underlying27 (by kernel_rfl)
   (foB_cons (s := 1) rfl (by kernel_rfl) (opensB_of hB (opens_int Try.underlying3)) (foB_cons (s := 1) rfl (by kernel_rfl) (opensB_str hB Try.underlying9) (foB_cons (s := 1) rfl (by kernel_rfl) (opensB_str hB Try.underlying9) (foB_cons (s := 1) rfl (by kernel_rfl) (opensB_str hB Try.underlying9)
   (foB_cons (s := 1) rfl (by kernel_rfl) (opensB_slice (size := 9) (bytes := 104) hB Try.underlying23 (by kernel_rfl) (by kernel_rfl) (opensB_ac hB)) (foB_cons (s := 1) rfl (by kernel_rfl) (opensB_slice (size := 9) (bytes := 104) hB Try.underlying23 (by kernel_rfl) (by kernel_rfl) (opensB_ac hB))
   (foB_cons (s := 1) rfl (by kernel_rfl) (opensB_slice (size := 13) (bytes := 168) hB Try.underlying24 (by kernel_rfl) (by kernel_rfl) (opensB_mv hB)) (foB_cons (s := 1) rfl (by kernel_rfl) (opensB_slice (size := 9) (bytes := 160) hB Try.underlying25 (by kernel_rfl) (by kernel_rfl) (opensB_t hB _)) (foB_cons (s := 1) rfl (by kernel_rfl) (opensB_of hB (opens_int Try.underlying3)) (foB_nil rfl))))))))))
 exact h
theorem ndsN_of : ∀ {l : List Nd}, (∀ x, x ∈ l -> ndN x) -> ndsN l
 | [], _ => by rw [ndsN]; trivial
 | x :: l, h => by
  rw [ndsN]
  exact ⟨h x (by simp), ndsN_of fun y hy => h y (by simp [hy])⟩
theorem ndU_of (hB : IsBulk B) : ∀ (N : Nat) {x : DataW H} {cs : List Value} {F : Nat -> Prop}, B x <= N -> rTrX enc W base spare held 27 W F x cs -> ∃ (e : Nd) (d : Nat), rNd false d W (fun _ => True) e cs /\ ndN e /\ szN e <= B x
 | 0, x, cs, F, h, _ => by have := hB.one x; omega
 | N + 1, x, cs, F, h, ⟨fuel, p, ht, hw⟩ => by
  obtain ⟨⟨k, nm, ini, dft, en, lv, mv, xs, a, u⟩, hr, hm⟩ := opens1_nd (enc := enc) (W := W) (base := base) (spare := spare) (held := held) hB fuel cs (x, p) ht hw
  obtain ⟨c1, r1, rfl, ⟨rfl, i1⟩, c2, r2, rfl, ⟨rfl, i2⟩, c3, r3, rfl, ⟨rfl, i3⟩, c4, r4, rfl, ⟨rfl, i4⟩, c5, r5, rfl, ⟨ens, rfl, hen, _⟩, c6, r6, rfl, ⟨lvs, rfl, hlv, _⟩, c7, r7, rfl, ⟨mvs, rfl, hmv, _⟩, c8, r8, rfl, ⟨sl, rfl, hsl, _⟩, c9, r9, rfl, ⟨rfl, i9⟩, hu⟩ := hr
  have hu : r9 = [] := hu
  subst hu
  dsimp only at hm hsl hen hlv hmv
  have hsum : ∀ y, y ∈ xs -> B y <= (xs.map B).sum := fun y hy => mem_sumN (List.mem_map_of_mem hy)
  obtain ⟨l, l1, l2, l3⟩ := lift_g (B := B) (sz := fun e : Nd × Nat => szN e.1) (Q := fun j e => ∃ base cs, sl.a = some base /\ cs.length = 9 /\ Cells W (base.add (j * 9)) cs /\ rNd false e.2 W (fun _ => True) e.1 cs /\ ndN e.1) xs 0 fun j y hj => by
   rw [Nat.zero_add]
   obtain ⟨bs, ds, g1, g2, g3, g4, g5⟩ := hsl.at_ j y hj
   obtain ⟨e, d, t1, t2, t3⟩ := ndU_of hB N (x := y) (by have := hsum y (List.mem_of_getElem? hj); omega) g5
   exact ⟨(e, d), ⟨bs, ds, g1, g3, g4, t1, t2⟩, t3⟩
  obtain ⟨m, hmx⟩ := top_of (fun e : Nd × Nat => e.2) l
  obtain ⟨a1, a2, a3⟩ := acs_of hen
  obtain ⟨b1, b2, b3⟩ := acs_of hlv
  obtain ⟨d1, d2, d3⟩ := mvs_of hmv
  refine ⟨.mk ⟨k, nm.data.toList, ini.data.toList, dft.data.toList, en.map (·.1), lv.map (·.1), mv.map (·.1), a⟩ (l.map (·.1)), m + 1, ⟨ens, lvs, mvs, sl, ?_, ⟨a1, b1, d1⟩, ?_, fun h => (by cases h)⟩, ?_, ?_⟩
  · show _ = [_, Value.string (T nm.data.toList), Value.string (T ini.data.toList), Value.string (T dft.data.toList), _, _, _, _, _]
    rw [<- T_of nm, <- T_of ini, <- T_of dft]
    rfl
  · refine ⟨by rw [Nd.kids, List.length_map, l1]; exact hsl.len, hsl.cap, hsl.nil0, hsl.big, fun j e hj => ?_⟩
    rw [Nd.kids, List.getElem?_map, Option.map_eq_some_iff] at hj
    obtain ⟨q, q1, rfl⟩ := hj
    obtain ⟨bs, ds, g1, g2, g3, g4, g5⟩ := l2 j q q1
    rw [Nat.zero_add] at g3
    exact ⟨bs, ds, g1, trivial, g2, g3, rNd_le (hmx q (List.mem_of_getElem? q1)) g4⟩
  · rw [ndN]
    refine ⟨⟨a2, b2, d2⟩, ndsN_of fun y hy => ?_⟩
    obtain ⟨q, q1, rfl⟩ := List.mem_map.1 hy
    obtain ⟨j, hj⟩ := List.getElem?_of_mem q1
    obtain ⟨bs, ds, g1, g2, g3, g4, g5⟩ := l2 j q hj
    exact g5
  · rw [szN, szNs_sum, List.map_map]
    unfold szB
    dsimp only
    rw [bsz, bsz, bsz]
    have e : (l.map (szN ∘ fun x => x.1)).sum = (l.map fun e : Nd × Nat => szN e.1).sum := rfl
    omega
def rNdU : Rp (Nd × Nat) := fun w F x cs => ∃ d, rNd false d w F x.1 cs /\ ndN x.1 /\ szN x.1 <= x.2
theorem opensB_nd (hB : IsBulk B) : OpensB B enc Try.prog W base spare held 27 rNdU fun x => x.2 := fun fuel cs x h hw => by
 obtain ⟨e, d, h1, h2, h3⟩ := ndU_of hB (B x.1) (x := x.1) (F := fun _ => True) (Nat.le_refl _) ⟨fuel, x.2, h, hw⟩
 exact ⟨(e, B x.1), ⟨d, h1, h2, h3⟩, Nat.le_refl _⟩
def rChU : Rp (Ch × Nat) := fun w F x cs => ∃ (D : Nat) (vs : Sl) (cs' : List Value), cs = vs.v :: cs' /\ ChR false D w F x.1 vs cs' /\ chN x.1 /\ szVs x.1.vars + szN x.1.root <= x.2
theorem opensB_ch (hB : IsBulk B) : OpensB B enc Try.prog W base spare held 29 rChU fun x => x.2 := by
 have h := opensB_struct (enc := enc) (P := Try.prog) (W := W) (base := base) (spare := spare) (held := held) (T := 10) hB Try.underlying29 (by kernel_rfl)
   (foB_cons (s := 1) rfl (by kernel_rfl) (opensB_slice (size := 3) (bytes := 32) hB Try.underlying22 (by kernel_rfl) (by kernel_rfl) (opensB_vr hB)) (foB_cons (s := 9) rfl (by kernel_rfl) (opensB_nd hB) (foB_nil rfl)))
 refine h.map (fun x => ((⟨x.1.map (·.1), x.2.1.1⟩ : Ch), (x.1.map fun x => x.2).sum + x.2.1.2)) ?_
 rintro ⟨vs, ⟨nd, m⟩, u⟩ cs ⟨c1, r1, rfl, ⟨vsl, rfl, hvs, _⟩, c2, r2, rfl, ⟨d, hnd, hn, hz⟩, hu⟩
 have hu : r2 = [] := hu
 subst hu
 rw [List.append_nil]
 refine ⟨⟨d, vsl, c2, rfl, ⟨⟨slMap (·.1) hvs fun x cs _ hx => hx.1, fun h => (by cases h)⟩, hnd⟩, ⟨fun v hv => ?_, hn⟩, ?_⟩, by dsimp only; omega⟩
 · obtain ⟨x, hx, rfl⟩ := List.mem_map.1 hv
   obtain ⟨cs, hc⟩ := slMem hvs hx
   exact hc.2.1
 · show szVs (vs.map (·.1)) + szN nd <= _
   rw [szVs_sum]
   have := sum_fst (f := fun v : Vr => v.n.length + 1) (l := vs) fun x hx => by
    obtain ⟨cs, hc⟩ := slMem hvs hx
    exact hc.2.2
   dsimp only at hz ⊢
   omega
end
end Go.Proofs.Ytddfmhccaapgjaa.Con
namespace Go.Proofs.Ytddfmhccaapgjaa.Con
open Go Go.RowKit Go.Kt Go.Kt.V Go.Proofs.Ytddfmhccaapgjaa.Vc
set_option linter.unusedSimpArgs false
set_option linter.unusedVariables false
set_option maxHeartbeats 1600000
set_option maxRecDepth 100000
section
variable {w : World} {F G : Nat -> Prop} {l sa : Sl} {xs : List Spo} {act : List Int}
theorem nth_small (hF : Sd xs) (n : Nat) : (nthW xs xs.length 0 n).length <= 1000000 := by
 obtain ⟨s, hs, _⟩ := hF.rt
 have := nth_len hF xs.length 0 n hs
 omega
theorem Countr_c (h : SliceF rSp 5 w F l xs) (hF : Sd xs) : Calls Try.prog 13 #[l.v] w fun e w' => e = .returned (.int .i64 (W xs 0 : Int)) /\ Only [] w w' := by
 refine ret (v86w l (fun v w' => v = .int .i64 (W xs 0 : Int) /\ Only [] w w') w ?_)
 unfold v86v
 obtain ⟨s, hs, _⟩ := hF.rt
 refine (rways_c hF xs.length 0 h hs (by omega)).mono ?_
 rintro _ w1 ⟨rfl, hO⟩
 exact ⟨_, rfl, rfl, hO⟩
theorem Nthr_c (h : SliceF rSp 5 w F l xs) (hF : Sd xs) (k : Int) : Calls Try.prog 8 #[l.v, .int .i64 k] w fun e w' => (∃ (s : Sl) (b : Bool) (is : List Int), e = .returned (.tuple #[s.v, .bool b]) /\ OwnI w.heap.size w' s is /\ (b = true ↔ 0 <= k /\ k < W xs 0) /\ is = if b = true then nthW xs xs.length 0 k.toNat else []) /\ Only [] w w' := by
 refine (v89w l k (fun v w' => (∃ (s : Sl) (b : Bool) (is : List Int), v = .tuple #[s.v, .bool b] /\ OwnI w.heap.size w' s is /\ (b = true ↔ 0 <= k /\ k < W xs 0) /\ is = if b = true then nthW xs xs.length 0 k.toNat else []) /\ Only [] w w') w ?_).mono (by rintro _ w' ⟨v, rfl, ⟨k, b, is, rfl, h⟩, h'⟩; exact ⟨⟨k, b, is, rfl, h⟩, h'⟩)
 unfold v89v
 obtain ⟨s, hs, _⟩ := hF.rt
 refine (Countr_c h hF).mono ?_
 rintro _ w1 ⟨rfl, hO1⟩
 have z1 := hO1.size
 refine ⟨_, rfl, fun hc => ⟨⟨Sl.nil, false, [], rfl, Own.nil _ _ _ _ _ _, ⟨(fun h => by cases h), fun hk => ?_⟩, rfl⟩, hO1⟩, fun hc => ?_⟩
 · rw [Bool.or_eq_true] at hc
   rcases hc with hc | hc
   · have := of_decide_eq_true hc
     omega
   · have := of_decide_eq_true hc
     omega
 · rw [Bool.or_eq_false_iff] at hc
   have c1 := of_decide_eq_false hc.1
   have c2 := of_decide_eq_false hc.2
   obtain ⟨m, rfl⟩ : ∃ m : Nat, k = m := ⟨k.toNat, by omega⟩
   have hlt : m < W xs ((0 : Nat) : Int) := by
    have e : W xs ((0 : Nat) : Int) = W xs 0 := rfl
    omega
   refine (rnth_c hF xs.length 0 m (sp_u h hO1) hs (by omega) hlt).mono ?_
   rintro _ w2 ⟨⟨s2, rfl, hS2⟩, hO2⟩
   exact ⟨s2, rfl, ⟨s2, true, _, rfl, Own.low hS2 z1, ⟨fun _ => ⟨by omega, by omega⟩, fun _ => rfl⟩, by rw [if_pos rfl, Int.toNat_natCast]⟩, hO1.tr0 hO2⟩
theorem Rankr_c (h : SliceF rSp 5 w F l xs) (hF : Sd xs) (ha : SliceF rInt 1 w G sa act) (hm : act.length <= 1000000000) : Calls Try.prog 10 #[l.v, sa.v] w fun e w' => (∃ (k : Int) (b : Bool), e = .returned (.tuple #[.int .i64 k, .bool b]) /\ (b = true ↔ Lg xs act) /\ k = if b = true then (rkW xs act xs.length 0 : Int) else 0) /\ Only [] w w' := by
 refine (v90w l sa (fun v w' => (∃ (k : Int) (b : Bool), v = .tuple #[.int .i64 k, .bool b] /\ (b = true ↔ Lg xs act) /\ k = if b = true then (rkW xs act xs.length 0 : Int) else 0) /\ Only [] w w') w ?_).mono (by rintro _ w' ⟨v, rfl, ⟨k, b, rfl, h⟩, h'⟩; exact ⟨⟨k, b, rfl, h⟩, h'⟩)
 unfold v90v
 obtain ⟨s, hs, _⟩ := hF.rt
 refine (legalr_c h hF ha (by omega)).mono ?_
 rintro _ w1 ⟨⟨r, rfl, hr⟩, hO1⟩
 refine ⟨r, rfl, fun hb => ⟨⟨_, _, rfl, ⟨(fun h => by cases h), fun hL => by rw [hr.2 hL] at hb; cases hb⟩, rfl⟩, hO1⟩, fun hb => ?_⟩
 have hL := hr.1 (by simpa using hb)
 refine (rrank_c hF hL hm xs.length 0 (sp_u h hO1) (kI ha hO1) hs (by omega) hL.rt).mono ?_
 rintro _ w2 ⟨rfl, hO2⟩
 exact ⟨_, rfl, ⟨_, _, rfl, ⟨fun _ => hL, fun _ => rfl⟩, rfl⟩, hO1.tr0 hO2⟩
end
theorem counts_c {w : World} {x : Ch × Nat} {cs : List Value} {sa : Sl} {act : List Int} (hx : rChU w (fun _ => True) x cs) (k : Int) (ha : SliceF rInt 1 w (fun _ => True) sa act) (hb : x.2 + act.length <= 1048576) : Calls Try.prog 3 #[.agg cs.toArray, .int .i64 k, sa.v] w fun e w' => e = .returned (.bool true) /\ Only [] w w' := by
 obtain ⟨c, m⟩ := x
 obtain ⟨D, vs, cs, rfl, hC, hn, hs⟩ := hx
 dsimp only at hC hn hs hb
 have hC0 := hC
 cases D with
 | zero => exact hC.root.elim
 | succ D =>
 obtain ⟨en, lv, mv, kids, rfl, _⟩ := hC0.root
 refine ret (v16w vs c.root.b.k (T c.root.b.nm) (T c.root.b.ini) (T c.root.b.dft) en lv mv kids c.root.b.a k sa (fun v w' => v = .bool true /\ Only [] w w') w ?_)
 unfold v16v
 intro k0 w0 hk0 hk0' hO0
 have z0 := hO0.size
 refine (small_c w0).mono ?_
 rintro _ w1 ⟨rfl, hO1⟩
 have z1 := hO1.size
 have o1 := hO0.tr0 hO1
 have hC1 : ChR false (D + 1) w1 (fun _ => True) c vs (ndv c.root.b.k c.root.b.nm c.root.b.ini c.root.b.dft en lv mv kids c.root.b.a) := ⟨hC.vars.keep rVr_ok (by decide) fun k _ hlt => o1.block k hlt (by simp), (rNd_ok false _).keep hC.root fun k _ hlt => o1.block k hlt (by simp)⟩
 refine ⟨true, rfl, hO1.same (by simp; omega), (row_c hC1 hn (by omega)).mono ?_⟩
 rintro _ w2 ⟨⟨l, rfl, hl⟩, hO2⟩
 have z2 := hO2.size
 have o2 := o1.tr0 hO2
 refine ⟨l, rfl, hO2.same (by simp; omega), fun _ => ⟨rfl, o2⟩, fun hc => ?_⟩
 have hl0 : l.n ≠ 0 := by
  intro e
  rw [e] at hc
  cases hc
 obtain ⟨xs, hF, hS⟩ := hl.resolve_left hl0
 have hsp := hS.sl'
 have sm : ∀ {u u' : World}, w2.heap.size <= u.heap.size -> Only [] u u' -> Same [k0] u u' := fun hz hO => hO.same (by simp; omega)
 refine (Nth_c hsp hF k (nth_small hF)).mono ?_
 rintro _ w3 ⟨⟨s3, b3, is3, rfl, hS3, hb3, hi3⟩, hO3⟩
 have z3 := hO3.size
 refine ⟨s3, b3, rfl, sm (Nat.le_refl _) hO3, (Nthr_c (sp_u hsp hO3) hF k).mono ?_⟩
 rintro _ w4 ⟨⟨s4, b4, is4, rfl, hS4, hb4, hi4⟩, hO4⟩
 have z4 := hO4.size
 have o4 := hO3.tr0 hO4
 have eb : b3 = b4 := by rw [Bool.eq_iff_iff, hb3, hb4]
 subst eb
 have ei : is3 = is4 := by rw [hi3, hi4]
 subst ei
 refine ⟨s4, _, rfl, sm (by omega) hO4, (Rank_c (sp_u hsp o4) hF (kI ha (o2.tr0 o4)) (by omega)).mono ?_⟩
 rintro _ w5 ⟨⟨k5, b5, rfl, hb5, hk5⟩, hO5⟩
 have z5 := hO5.size
 have o5 := o4.tr0 hO5
 refine ⟨k5, b5, rfl, sm (by omega) hO5, (Rankr_c (sp_u hsp o5) hF (kI ha (o2.tr0 o5)) (by omega)).mono ?_⟩
 rintro _ w6 ⟨⟨k6, b6, rfl, hb6, hk6⟩, hO6⟩
 have z6 := hO6.size
 have o6 := o5.tr0 hO6
 have eb : b5 = b6 := by rw [Bool.eq_iff_iff, hb5, hb6]
 subst eb
 have ek : k5 = k6 := by rw [hk5, hk6]
 subst ek
 have h36 : OwnI w2.heap.size w6 s3 is3 := wp_int hS3 ((hO4.tr0 hO5).tr0 hO6)
 have b3 : ∀ {g : Nat}, s3.a = some ⟨g, 0, none⟩ -> w2.heap.size <= g /\ g < w3.heap.size := fun e => hS3.blk e
 refine ⟨_, _, rfl, sm (by omega) hO6, fun b u => b = true /\ Only [] w6 u, ?_, (sameI_c h36.sl (wp_int hS4 (hO5.tr0 hO6)).sl).mono ?_⟩
 · rintro _ w7 ⟨rfl, hO7⟩
   have z7 := hO7.size
   have o7 := o6.tr0 hO7
   refine ⟨fun b u => b = true /\ Only [] w2 u, fun b u ⟨hb, hu⟩ => ⟨by rw [hb], o2.tr0 hu⟩, fun _ => ?_, fun h => by cases h⟩
   refine (ownInts_c (wp_int h36 hO7).rowC (rowC_nil w7) fun g _ e => by cases e).mono ?_
   rintro _ w9 ⟨rfl, hP9, _, _⟩
   refine ⟨_, rfl, hP9.same fun x hx => ?_, rfl, (o7.trP (hP9.mono (G := fun k => w2.heap.size <= k) fun k _ hk => ?_)).only fun k hk => hk⟩
   · simp only [List.mem_singleton] at hx
     subst hx
     refine ⟨by omega, fun hk => ?_⟩
     rcases hk with hk | hk
     · have := b3 hk; omega
     · cases hk
   · rcases hk with hk | hk
     · exact (b3 hk).1
     · cases hk
 · rintro _ w10 ⟨rfl, hO10⟩
   have z10 := hO10.size
   have o10 := o6.tr0 hO10
   refine ⟨_, rfl, hO10.same (by simp; omega), fun _ => (Count_c (sp_u hsp o10) hF).mono ?_, fun h => ?_⟩
   · rintro _ w11 ⟨rfl, hO11⟩
     have z11 := hO11.size
     refine ⟨_, rfl, hO11.same (by simp; omega), (Countr_c (sp_u hsp (o10.tr0 hO11)) hF).mono ?_⟩
     rintro _ w12 ⟨rfl, hO12⟩
     exact ⟨_, rfl, hO12.same (by simp; omega), by simp, (hO10.tr0 hO11).tr0 hO12⟩
   · exfalso
     simp at h
theorem back_c {w : World} {x : Ch × Nat} {cs : List Value} (hx : rChU w (fun _ => True) x cs) (k j : Int) (hb : x.2 <= 1048576) : Calls Try.prog 4 #[.agg cs.toArray, .int .i64 k, .int .i64 j] w fun e w' => e = .returned (.bool true) /\ Only [] w w' := by
 obtain ⟨c, m⟩ := x
 obtain ⟨D, vs, cs, rfl, hC, hn, hs⟩ := hx
 dsimp only at hC hn hs hb
 have hC0 := hC
 cases D with
 | zero => exact hC.root.elim
 | succ D =>
 obtain ⟨en, lv, mv, kids, rfl, _⟩ := hC0.root
 refine ret (v15w vs c.root.b.k (T c.root.b.nm) (T c.root.b.ini) (T c.root.b.dft) en lv mv kids c.root.b.a k j (fun v w' => v = .bool true /\ Only [] w w') w ?_)
 unfold v15v
 intro k0 w0 hk0 hk0' hO0
 have z0 := hO0.size
 refine (small_c w0).mono ?_
 rintro _ w1 ⟨rfl, hO1⟩
 have z1 := hO1.size
 have o1 := hO0.tr0 hO1
 have hC1 : ChR false (D + 1) w1 (fun _ => True) c vs (ndv c.root.b.k c.root.b.nm c.root.b.ini c.root.b.dft en lv mv kids c.root.b.a) := ⟨hC.vars.keep rVr_ok (by decide) fun k _ hlt => o1.block k hlt (by simp), (rNd_ok false _).keep hC.root fun k _ hlt => o1.block k hlt (by simp)⟩
 refine ⟨true, rfl, hO1.same (by simp; omega), (row_c hC1 hn (by omega)).mono ?_⟩
 rintro _ w2 ⟨⟨l, rfl, hl⟩, hO2⟩
 have z2 := hO2.size
 have o2 := o1.tr0 hO2
 refine ⟨l, rfl, hO2.same (by simp; omega), fun _ => ⟨rfl, o2⟩, fun hc => ?_⟩
 have hl0 : l.n ≠ 0 := by
  intro e
  rw [e] at hc
  cases hc
 obtain ⟨xs, hF, hS⟩ := hl.resolve_left hl0
 have hsp := hS.sl'
 have hle := hF.le
 have sm : ∀ {u u' : World}, w2.heap.size <= u.heap.size -> Only [] u u' -> Same [k0] u u' := fun hz hO => hO.same (by simp; omega)
 refine (Count_c hsp hF).mono ?_
 rintro _ w3 ⟨rfl, hO3⟩
 have z3 := hO3.size
 refine ⟨_, rfl, sm (Nat.le_refl _) hO3, (Nth_c (sp_u hsp hO3) hF k (nth_small hF)).mono ?_⟩
 rintro _ w4 ⟨⟨s4, b4, is4, rfl, hS4, hb4, hi4⟩, hO4⟩
 have z4 := hO4.size
 have o4 := hO3.tr0 hO4
 refine ⟨s4, b4, rfl, sm (by omega) hO4, (Nth_c (sp_u hsp o4) hF j (nth_small hF)).mono ?_⟩
 rintro _ w5 ⟨⟨s5, b5, is5, rfl, hS5, hb5, hi5⟩, hO5⟩
 have z5 := hO5.size
 have o5 := o4.tr0 hO5
 have hl4 := hS4.len
 refine ⟨s5, b5, rfl, sm (by omega) hO5, fun h => ?_, fun _ => ⟨fun hb => ⟨?_, o2.tr0 o5⟩, fun hb => ?_⟩⟩
 · exfalso
   have : b4 = (decide (k >= 0) && decide (k < (W xs 0 : Int))) := by
    rw [Bool.eq_iff_iff, hb4, Bool.and_eq_true, decide_eq_true_eq, decide_eq_true_eq]
   rw [<- this] at h
   simp at h
 · have hb : b4 = false := by simpa using hb
   rw [hb] at hi4
   rw [if_neg (by decide)] at hi4
   rw [hl4, hi4]
   rfl
 have hb : b4 = true := by simpa using hb
 subst hb
 obtain ⟨hk0, hk1⟩ := hb4.1 rfl
 rw [if_pos rfl] at hi4
 obtain ⟨k, rfl⟩ : ∃ m : Nat, k = m := ⟨k.toNat, by omega⟩
 rw [Int.toNat_natCast] at hi4
 obtain ⟨hL, hrk⟩ := nth_top hF (k := k) (by omega)
 rw [<- hi4] at hL hrk
 have hlen := nth_small hF k
 rw [<- hi4] at hlen
 refine (Rank_c (sp_u hsp o5) hF (wp_int hS4 hO5).sl (by omega)).mono ?_
 rintro _ w6 ⟨⟨k6, b6, rfl, hb6, hk6⟩, hO6⟩
 have z6 := hO6.size
 have o6 := o5.tr0 hO6
 have hb6 : b6 = true := hb6.2 hL
 subst hb6
 rw [if_pos rfl, hrk] at hk6
 subst hk6
 refine ⟨_, _, rfl, sm (by omega) hO6, (sameI_c (wp_int hS4 (hO5.tr0 hO6)).sl (wp_int hS5 hO6).sl).mono ?_⟩
 rintro _ w7 ⟨rfl, hO7⟩
 have z7 := hO7.size
 have o7 := o6.tr0 hO7
 refine ⟨_, rfl, sm (by omega) hO7, (legal_c (sp_u hsp o7) hF (wp_int hS4 ((hO5.tr0 hO6).tr0 hO7)).sl (by omega)).mono ?_⟩
 rintro _ w8 ⟨⟨r8, rfl, hr8⟩, hO8⟩
 have hr8 : r8 = true := hr8.2 hL
 subst hr8
 refine ⟨_, rfl, sm (by omega) hO8, ?_, o2.tr0 (o7.tr0 hO8)⟩
 congr 1
 rw [Bool.true_and, beq_self_eq_true, Bool.true_and]
 cases b5 with
 | false => rfl
 | true =>
  obtain ⟨hj0, hj1⟩ := hb5.1 rfl
  rw [if_pos rfl] at hi5
  obtain ⟨j, rfl⟩ : ∃ m : Nat, j = m := ⟨j.toNat, by omega⟩
  rw [Int.toNat_natCast] at hi5
  obtain ⟨_, hrj⟩ := nth_top hF (k := j) (by omega)
  rw [<- hi5] at hrj
  rw [Bool.not_true, Bool.false_or, Bool.true_and, beq_iff_eq, Bool.eq_iff_iff, decide_eq_true_eq, beq_iff_eq]
  constructor
  · intro e
    rw [e, hrj] at hrk
    omega
  · intro e
    have : k = j := by omega
    rw [hi4, hi5, this]
end Go.Proofs.Ytddfmhccaapgjaa.Con
