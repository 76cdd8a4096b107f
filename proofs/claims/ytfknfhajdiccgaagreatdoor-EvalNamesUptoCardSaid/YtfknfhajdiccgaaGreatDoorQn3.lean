import Derived.Test.YtfknfhajdiccgaaGreatDoorQn2
set_option linter.unusedSectionVars false
namespace Go.Proofs
open Go.Shelf
def Tryz.laysM316_ren : Go.Shelf.Ren := ⟨fun | 316 => 89 | n => n, fun | 9 => 9 | 3 => 3 | 4 => 4 | 37 => 114 | 0 => 0 | 127 => 140 | 5 => 5 | n => n, fun | n => n⟩
theorem Tryz.laysM316 : Go.Proofs.LaysM.n316 Tryz.prog Tryz.laysM316_ren := {
 mixed := by kernel_rfl
 f316 := Tryz.func89.trans (congrArg some (by kernel_rfl))
 t0 := Tryz.underlying0
 a0 := Tryz.isAgg0
 z0 := Tryz.sizeOf0
 v0 := Tryz.zeroValue0
 t3 := Tryz.underlying3
 a3 := Tryz.isAgg3
 z3 := Tryz.sizeOf3
 v3 := Tryz.zeroValue3
 t4 := Tryz.underlying4
 a4 := Tryz.isAgg4
 z4 := Tryz.sizeOf4
 v4 := Tryz.zeroValue4
 t9 := Tryz.underlying9
 a9 := Tryz.isAgg9
 z9 := Tryz.sizeOf9
 v9 := Tryz.zeroValue9
 t37 := Tryz.underlying114
 a37 := Tryz.isAgg114
 z37 := Tryz.sizeOf114
 v37 := Tryz.zeroValue114
 t127 := Tryz.underlying140
 a127 := Tryz.isAgg140
 z127 := Tryz.sizeOf140
 v127 := Tryz.zeroValue140
 t5 := Tryz.underlying5
 a5 := Tryz.isAgg5
 z5 := Tryz.sizeOf5
 v5 := Tryz.zeroValue5
 i0 := by kernel_rfl
 i3 := by kernel_rfl
 i4 := by kernel_rfl
 i5 := by kernel_rfl
 i9 := by kernel_rfl
 i37 := by kernel_rfl
 i127 := by kernel_rfl }
open Go.RowKit in
theorem Tryz.stringslite_Clone (s : ByteArray) (w : World) (hlim : s.size <= 281474976710656) :
  Calls Tryz.prog 89 #[.string s] w fun e w' => e = .returned (.string s) /\ Below w.heap.size w w' := Any.stringslite_Clone Tryz.laysM316 s w hlim
def Tryz.laysC174_ren : Go.Shelf.Ren := ⟨fun | 174 => 91 | 247 => 98 | 245 => 99 | 287 => 102 | 279 => 103 | 280 => 104 | 281 => 105 | 282 => 106 | 321 => 107 | 322 => 108 | 316 => 89 | 171 => 110 | 205 => 109 | 243 => 111 | 246 => 112 | 283 => 113 | 284 => 114 | 285 => 115 | 286 => 116 | 129 => 66 | 317 => 117 | 318 => 118 | 319 => 119 | 320 => 120 | 337 => 121 | 338 => 122 | n => n, fun | 9 => 9 | 3 => 3 | 2 => 2 | 75 => 132 | 85 => 133 | 4 => 4 | 167 => 144 | 5 => 5 | 53 => 113 | 175 => 145 | 46 => 89 | 168 => 147 | 37 => 114 | 0 => 0 | 210 => 152 | 21 => 21 | 127 => 140 | 145 => 157 | 143 => 155 | 171 => 159 | 173 => 161 | 212 => 163 | 51 => 111 | 20 => 20 | 213 => 164 | 232 => 166 | 233 => 167 | 80 => 96 | n => n, fun | 15 => 1 | 16 => 2 | 17 => 3 | 18 => 4 | 19 => 5 | n => n⟩
theorem Tryz.laysC174 : Go.Proofs.LaysC.n174 Tryz.prog Tryz.laysC174_ren := {
 mixed := by kernel_rfl
 f129 := Tryz.func66.trans (congrArg some (by kernel_rfl))
 f171 := Tryz.func110.trans (congrArg some (by kernel_rfl))
 f174 := Tryz.func91.trans (congrArg some (by kernel_rfl))
 f205 := Tryz.func109.trans (congrArg some (by kernel_rfl))
 f243 := Tryz.func111.trans (congrArg some (by kernel_rfl))
 f245 := Tryz.func99.trans (congrArg some (by kernel_rfl))
 f246 := Tryz.func112.trans (congrArg some (by kernel_rfl))
 f247 := Tryz.func98.trans (congrArg some (by kernel_rfl))
 f279 := Tryz.func103.trans (congrArg some (by kernel_rfl))
 f280 := Tryz.func104.trans (congrArg some (by kernel_rfl))
 f281 := Tryz.func105.trans (congrArg some (by kernel_rfl))
 f282 := Tryz.func106.trans (congrArg some (by kernel_rfl))
 f283 := Tryz.func113.trans (congrArg some (by kernel_rfl))
 f284 := Tryz.func114.trans (congrArg some (by kernel_rfl))
 f285 := Tryz.func115.trans (congrArg some (by kernel_rfl))
 f286 := Tryz.func116.trans (congrArg some (by kernel_rfl))
 f287 := Tryz.func102.trans (congrArg some (by kernel_rfl))
 f316 := Tryz.func89.trans (congrArg some (by kernel_rfl))
 f317 := Tryz.func117.trans (congrArg some (by kernel_rfl))
 f318 := Tryz.func118.trans (congrArg some (by kernel_rfl))
 f319 := Tryz.func119.trans (congrArg some (by kernel_rfl))
 f320 := Tryz.func120.trans (congrArg some (by kernel_rfl))
 f321 := Tryz.func107.trans (congrArg some (by kernel_rfl))
 f322 := Tryz.func108.trans (congrArg some (by kernel_rfl))
 f337 := Tryz.func121.trans (congrArg some (by kernel_rfl))
 f338 := Tryz.func122.trans (congrArg some (by kernel_rfl))
 t0 := Tryz.underlying0
 a0 := Tryz.isAgg0
 z0 := Tryz.sizeOf0
 v0 := Tryz.zeroValue0
 t2 := Tryz.underlying2
 a2 := Tryz.isAgg2
 z2 := Tryz.sizeOf2
 v2 := Tryz.zeroValue2
 t3 := Tryz.underlying3
 a3 := Tryz.isAgg3
 z3 := Tryz.sizeOf3
 v3 := Tryz.zeroValue3
 t4 := Tryz.underlying4
 a4 := Tryz.isAgg4
 z4 := Tryz.sizeOf4
 v4 := Tryz.zeroValue4
 t5 := Tryz.underlying5
 a5 := Tryz.isAgg5
 z5 := Tryz.sizeOf5
 v5 := Tryz.zeroValue5
 t9 := Tryz.underlying9
 a9 := Tryz.isAgg9
 z9 := Tryz.sizeOf9
 v9 := Tryz.zeroValue9
 t20 := Tryz.underlying20
 a20 := Tryz.isAgg20
 z20 := Tryz.sizeOf20
 v20 := Tryz.zeroValue20
 t21 := Tryz.underlying21
 a21 := Tryz.isAgg21
 z21 := Tryz.sizeOf21
 v21 := Tryz.zeroValue21
 t37 := Tryz.underlying114
 a37 := Tryz.isAgg114
 z37 := Tryz.sizeOf114
 v37 := Tryz.zeroValue114
 t46 := Tryz.underlying89
 a46 := Tryz.isAgg89
 z46 := Tryz.sizeOf89
 v46 := Tryz.zeroValue89
 t51 := Tryz.underlying111
 a51 := Tryz.isAgg111
 z51 := Tryz.sizeOf111
 v51 := Tryz.zeroValue111
 t53 := Tryz.underlying113
 a53 := Tryz.isAgg113
 z53 := Tryz.sizeOf113
 v53 := Tryz.zeroValue113
 t75 := Tryz.underlying132
 a75 := Tryz.isAgg132
 z75 := Tryz.sizeOf132
 v75 := Tryz.zeroValue132
 t85 := Tryz.underlying133
 a85 := Tryz.isAgg133
 z85 := Tryz.sizeOf133
 v85 := Tryz.zeroValue133
 t127 := Tryz.underlying140
 a127 := Tryz.isAgg140
 z127 := Tryz.sizeOf140
 v127 := Tryz.zeroValue140
 t143 := Tryz.underlying155
 a143 := Tryz.isAgg155
 z143 := Tryz.sizeOf155
 v143 := Tryz.zeroValue155
 t145 := Tryz.underlying157
 a145 := Tryz.isAgg157
 z145 := Tryz.sizeOf157
 v145 := Tryz.zeroValue157
 t167 := Tryz.underlying144
 a167 := Tryz.isAgg144
 z167 := Tryz.sizeOf144
 v167 := Tryz.zeroValue144
 t168 := Tryz.underlying147
 a168 := Tryz.isAgg147
 z168 := Tryz.sizeOf147
 v168 := Tryz.zeroValue147
 t171 := Tryz.underlying159
 a171 := Tryz.isAgg159
 z171 := Tryz.sizeOf159
 v171 := Tryz.zeroValue159
 t173 := Tryz.underlying161
 a173 := Tryz.isAgg161
 z173 := Tryz.sizeOf161
 v173 := Tryz.zeroValue161
 t175 := Tryz.underlying145
 a175 := Tryz.isAgg145
 z175 := Tryz.sizeOf145
 v175 := Tryz.zeroValue145
 t210 := Tryz.underlying152
 a210 := Tryz.isAgg152
 z210 := Tryz.sizeOf152
 v210 := Tryz.zeroValue152
 t212 := Tryz.underlying163
 a212 := Tryz.isAgg163
 z212 := Tryz.sizeOf163
 v212 := Tryz.zeroValue163
 t213 := Tryz.underlying164
 a213 := Tryz.isAgg164
 z213 := Tryz.sizeOf164
 t232 := Tryz.underlying166
 a232 := Tryz.isAgg166
 z232 := Tryz.sizeOf166
 v232 := Tryz.zeroValue166
 t233 := Tryz.underlying167
 a233 := Tryz.isAgg167
 z233 := Tryz.sizeOf167
 v233 := Tryz.zeroValue167
 g15 := by kernel_rfl
 g16 := by kernel_rfl
 g17 := by kernel_rfl
 g18 := by kernel_rfl
 g19 := by kernel_rfl
 t80 := Tryz.underlying96
 a80 := Tryz.isAgg96
 z80 := Tryz.sizeOf96
 v80 := Tryz.zeroValue96
 i0 := by kernel_rfl
 i2 := by kernel_rfl
 i3 := by kernel_rfl
 i4 := by kernel_rfl
 i5 := by kernel_rfl
 i9 := by kernel_rfl
 i20 := by kernel_rfl
 i21 := by kernel_rfl
 i37 := by kernel_rfl
 i46 := by kernel_rfl
 i51 := by kernel_rfl
 i53 := by kernel_rfl
 i75 := by kernel_rfl
 i80 := by kernel_rfl
 i85 := by kernel_rfl
 i127 := by kernel_rfl
 i143 := by kernel_rfl
 i145 := by kernel_rfl
 i167 := by kernel_rfl
 i168 := by kernel_rfl
 i171 := by kernel_rfl
 i173 := by kernel_rfl
 i175 := by kernel_rfl
 i210 := by kernel_rfl
 i212 := by kernel_rfl
 i232 := by kernel_rfl
 i233 := by kernel_rfl
 m15 := by kernel_rfl
 m16 := by kernel_rfl
 m17 := by kernel_rfl
 m18 := by kernel_rfl
 m19 := by kernel_rfl
 c0 := by kernel_rfl
 c2 := by kernel_rfl
 c3 := by kernel_rfl
 c4 := by kernel_rfl
 c5 := by kernel_rfl
 c9 := by kernel_rfl
 c20 := by kernel_rfl
 c21 := by kernel_rfl
 c37 := by kernel_rfl
 c46 := by kernel_rfl
 c51 := by kernel_rfl
 c53 := by kernel_rfl
 c75 := by kernel_rfl
 c80 := by kernel_rfl
 c85 := by kernel_rfl
 c127 := by kernel_rfl
 c143 := by kernel_rfl
 c145 := by kernel_rfl
 c167 := by kernel_rfl
 c168 := by kernel_rfl
 c171 := by kernel_rfl
 c173 := by kernel_rfl
 c175 := by kernel_rfl
 c210 := by kernel_rfl
 c212 := by kernel_rfl
 c213 := by kernel_rfl
 c232 := by kernel_rfl
 c233 := by kernel_rfl }
open Go.RowKit in
theorem Tryz.strconv_ParseInt_10_at64_ok (s : ByteArray) (hmax : s.size <= 9223372036854775806) (v : Int) (h : Lib.parseIntB 64 s.data.toList = .ok v) (w : World) :
  Calls Tryz.prog 91 #[.string s, .int .i64 10, .int .i64 64] w fun e w' => e = .returned (.tuple #[.int .i64 v, .nilIface]) /\ (w' = w ∨ ∃ t, w' = Lib.bytesWorld w 5 t) := Any.strconv_ParseInt_10_at64_ok Tryz.laysC174 s hmax v h w
open Go.RowKit in
theorem Tryz.strconv_ParseInt_10_at64_range_var (s : ByteArray) (hlim : s.size <= 281474976710656) (h : Lib.parseIntB 64 s.data.toList = .range) (tp : TypeId) (p : Value) (w : World) (hvar : w.var? Tryz.prog "strconv.ErrRange" = some #[.iface tp p]) :
  Calls Tryz.prog 91 #[.string s, .int .i64 10, .int .i64 64] w fun e w' => ∃ N, e = .returned (.tuple #[.int .i64 (Lib.intSat 64 s.data.toList), .iface 147 (.pointer (some ⟨N, 0, none⟩))]) /\ w.heap.size <= N /\ w'.heap[N]? = some (.cells #[.string ⟨#[80, 97, 114, 115, 101, 73, 110, 116]⟩, .string s, .iface tp p] 152 (0, 0)) /\ Below w.heap.size w w' := Any.strconv_ParseInt_10_at64_range_var Tryz.laysC174 s hlim h tp p w hvar
def Tryz.lays219_ren : Go.Shelf.Ren := ⟨fun | 219 => 88 | 217 => 94 | 225 => 95 | 224 => 96 | 267 => 97 | 266 => 100 | 314 => 101 | n => n, fun | 9 => 9 | 3 => 3 | 4 => 4 | 5 => 5 | 46 => 89 | 146 => 142 | 51 => 111 | n => n, fun | 1 => 0 | n => n⟩
theorem Tryz.lays219 : Go.Proofs.Lays.n219 Tryz.prog Tryz.lays219_ren := {
 mixed := by kernel_rfl
 f217 := Tryz.func94.trans (congrArg some (by kernel_rfl))
 f219 := Tryz.func88.trans (congrArg some (by kernel_rfl))
 f224 := Tryz.func96.trans (congrArg some (by kernel_rfl))
 f225 := Tryz.func95.trans (congrArg some (by kernel_rfl))
 f266 := Tryz.func100.trans (congrArg some (by kernel_rfl))
 f267 := Tryz.func97.trans (congrArg some (by kernel_rfl))
 f314 := Tryz.func101.trans (congrArg some (by kernel_rfl))
 t3 := Tryz.underlying3
 a3 := Tryz.isAgg3
 z3 := Tryz.sizeOf3
 v3 := Tryz.zeroValue3
 t4 := Tryz.underlying4
 a4 := Tryz.isAgg4
 z4 := Tryz.sizeOf4
 v4 := Tryz.zeroValue4
 t5 := Tryz.underlying5
 a5 := Tryz.isAgg5
 z5 := Tryz.sizeOf5
 v5 := Tryz.zeroValue5
 t9 := Tryz.underlying9
 a9 := Tryz.isAgg9
 z9 := Tryz.sizeOf9
 v9 := Tryz.zeroValue9
 t46 := Tryz.underlying89
 a46 := Tryz.isAgg89
 z46 := Tryz.sizeOf89
 v46 := Tryz.zeroValue89
 t51 := Tryz.underlying111
 a51 := Tryz.isAgg111
 z51 := Tryz.sizeOf111
 v51 := Tryz.zeroValue111
 t146 := Tryz.underlying142
 a146 := Tryz.isAgg142
 z146 := Tryz.sizeOf142
 v146 := Tryz.zeroValue142
 g1 := by kernel_rfl }
open Go.RowKit Go.Lib in
theorem Tryz.stringslite_Index_one (s : ByteArray) (c : UInt8) (w : World) :
  Calls Tryz.prog 88 #[.string s, .string ⟨#[c]⟩] w fun e w' => e = .returned (.int .i64 (Lib.indexByte s.data.toList c)) /\ w' = w := Any.stringslite_Index_one Tryz.lays219 s c w
end Go.Proofs
namespace Go.Proofs.YtfknfhajdiccgaaGreatDoor.Con
open Go Go.RowKit Go.Kt Go.Kt.V Go.Proofs.YtfknfhajdiccgaaGreatDoor.Vc
set_option linter.unusedSimpArgs false
set_option linter.unusedVariables false
theorem ret {P : Program} {f : FuncId} {a : Array Value} {w : World} {r : Value} {Q : World -> Prop} (h : Calls P f a w fun e w' => ∃ v, e = .returned v /\ v = r /\ Q w') : Calls P f a w fun e w' => e = .returned r /\ Q w' :=
 h.mono (by rintro e w' ⟨v, rfl, rfl, hq⟩; exact ⟨rfl, hq⟩)
theorem Blk.at1 {w : World} {b : Nat} {t : TypeId} {cs : List Value} (h : Blk w b t cs) (j : Nat) {v : Value} (hv : cs[j]? = some v) : Cells w ((⟨b, 0, none⟩ : Addr).add j) [v] := by
 rw [addr_lit, Nat.zero_add]
 exact h.cells j [v] fun k u hk => by
  cases k with
  | zero => simp only [List.getElem?_cons_zero, Option.some.injEq] at hk; subst hk; exact hv
  | succ k => simp at hk
def letterB (c : UInt8) : Bool := (65 <= c.toNat && c.toNat <= 90) || (97 <= c.toNat && c.toNat <= 122) || c.toNat == 95
def digitB (c : UInt8) : Bool := 48 <= c.toNat && c.toNat <= 57
def wordB (c : UInt8) : Bool := letterB c || digitB c
def blankB (c : UInt8) : Bool := [9, 10, 13, 32].contains c
theorem letter_all : ∀ n : Fin 256, (((decide (97 <= (bits .or .u8 (n.val : Int) 32))) && (decide ((bits .or .u8 (n.val : Int) 32) <= 122))) || ((n.val : Int) == 95)) = ((65 <= n.val && n.val <= 90) || (97 <= n.val && n.val <= 122) || n.val == 95) := by decide +kernel
theorem letter_c (w : World) (c : UInt8) : Calls Tryz.prog 49 #[.int .u8 (c.toNat : Int)] w fun e w' => e = .returned (.bool (letterB c)) /\ Only [] w w' := by
 refine ret (v51w _ (fun v w' => v = .bool (letterB c) /\ Only [] w w') w ?_)
 unfold v51v
 exact ⟨by rw [letter_all ⟨c.toNat, c.toNat_lt⟩]; rfl, Only.refl _ _⟩
theorem digit_c (w : World) (c : UInt8) : Calls Tryz.prog 51 #[.int .u8 (c.toNat : Int)] w fun e w' => e = .returned (.bool (digitB c)) /\ Only [] w w' := by
 refine ret (v50w _ (fun v w' => v = .bool (digitB c) /\ Only [] w w') w ?_)
 unfold v50v
 refine ⟨?_, Only.refl _ _⟩
 congr 1
 rw [Bool.eq_iff_iff]
 simp only [digitB, Bool.and_eq_true, decide_eq_true_eq]
 omega
theorem cdigit_c (w : World) (c : UInt8) : Calls Tryz.prog 90 #[.int .u8 (c.toNat : Int)] w fun e w' => e = .returned (.bool (digitB c)) /\ Only [] w w' := by
 refine ret (v3w _ (fun v w' => v = .bool (digitB c) /\ Only [] w w') w ?_)
 unfold v3v
 refine ⟨?_, Only.refl _ _⟩
 have h : ∀ n : Fin 256, decide ((IntKind.wrap .u8 ((n.val : Int) - 48)) < 10) = (decide (48 <= n.val) && decide (n.val <= 57)) := by decide +kernel
 rw [h ⟨c.toNat, c.toNat_lt⟩]
 rfl
theorem indexB_c {w : World} {F : Nat -> Prop} {s : Sl} {l : List UInt8} (h : SliceF rByte 1 w F s l) (c : UInt8) :
  Calls Tryz.prog 87 #[Sl.v s, .int .u8 (c.toNat : Int)] w fun e w' => ∃ i : Int, e = .returned (.int .i64 i) /\ decide (i >= 0) = l.contains c /\ Only [] w w' := by
 refine (v56w s _ (fun v w' => ∃ i : Int, v = .int .i64 i /\ decide (i >= 0) = l.contains c /\ Only [] w w') w ?_).mono (by
  rintro e w' ⟨v, rfl, i, rfl, h⟩; exact ⟨i, rfl, h⟩)
 unfold v56v
 have hlen := h.len
 have hbig := h.big
 have hcap := h.cap
 refine ⟨fun nv i w' => ∃ n : Nat, n <= l.length /\ i = (n : Int) /\ nv = l.length - n /\ (∀ x, x ∈ l.take n -> x ≠ c) /\ w' = w, l.length, ⟨0, Nat.zero_le _, rfl, rfl, by simp, rfl⟩, ?_⟩
 rintro nv _ _ ⟨n, hn, rfl, rfl, hp, rfl⟩
 refine ⟨fun hc => ?_, fun hc => ?_⟩
 · have hlt : (n : Int) < s.n := of_decide_eq_true hc
   obtain ⟨ad, x, cs, g1, g2, g3, g4, g5, g6⟩ := h.get (Int.natCast_nonneg n) hlt
   rw [Int.toNat_natCast] at g2
   unfold rByte byteV at g6
   subst g6
   refine ⟨ad, g1, _, g5, fun he => ⟨_, rfl, ?_, Only.refl _ _⟩, fun he => ⟨l.length - (n + 1), by omega, n + 1, by omega, by rw [wr' (by omega) (by omega)]; rfl, rfl, ?_, rfl⟩⟩
   · have he : c = x := UInt8.toNat_inj.1 (by have := of_decide_eq_true he; omega)
     rw [decide_eq_true (by omega)]
     symm
     rw [List.contains_iff_mem, he]
     exact List.mem_of_getElem? g2
   · intro y hy
     rw [List.take_add_one, g2] at hy
     simp only [Option.toList_some, List.mem_append, List.mem_singleton] at hy
     rcases hy with hy | rfl
     · exact hp y hy
     · rintro rfl
       simp at he
 · have hge : ¬ ((n : Int) < s.n) := of_decide_eq_false hc
   rw [List.take_of_length_le (by omega)] at hp
   refine ⟨_, rfl, ?_, Only.refl _ _⟩
   rw [decide_eq_false (by omega)]
   symm
   rw [Bool.eq_false_iff]
   intro hh
   exact hp c (List.contains_iff_mem.1 hh) rfl
theorem containsB_c {w : World} {F : Nat -> Prop} {s : Sl} {l : List UInt8} (h : SliceF rByte 1 w F s l) (c : UInt8) :
  Calls Tryz.prog 67 #[Sl.v s, .int .u8 (c.toNat : Int)] w fun e w' => e = .returned (.bool (l.contains c)) /\ Only [] w w' := by
 refine ret (v53w s _ (fun v w' => v = .bool (l.contains c) /\ Only [] w w') w ?_)
 unfold v53v
 refine (indexB_c h c).mono ?_
 rintro _ w1 ⟨i, rfl, hi, hO⟩
 exact ⟨i, rfl, by rw [hi], hO⟩
theorem one_c {w : World} {F : Nat -> Prop} {s : Sl} {l : List UInt8} (h : SliceF rByte 1 w F s l) (c : UInt8) :
  Calls Tryz.prog 45 #[.int .u8 (c.toNat : Int), Sl.v s] w fun e w' => e = .returned (.bool (l.contains c)) /\ Only [] w w' := by
 refine ret (v52w _ s (fun v w' => v = .bool (l.contains c) /\ Only [] w w') w ?_)
 unfold v52v
 refine (containsB_c h c).mono ?_
 rintro _ w1 ⟨rfl, hO⟩
 exact ⟨_, rfl, rfl, hO⟩
def rTx : Rp (List UInt8) := fun _ _ l cs => cs = [.string (T l)]
theorem rTx_ok : rTx.Ok where
 keep h _ := h
 inHeap h := h
 mono h _ := h
 one := by
  rintro w F x cs h v hv
  unfold rTx at h
  subst h
  simp only [List.mem_singleton] at hv
  subst hv; rfl
theorem indexS_c {w : World} {F : Nat -> Prop} {s : Sl} {l : List (List UInt8)} (h : SliceF rTx 1 w F s l) (c : List UInt8) :
  Calls Tryz.prog 41 #[Sl.v s, .string (T c)] w fun e w' => ∃ i : Int, e = .returned (.int .i64 i) /\ decide (i >= 0) = l.contains c /\ Only [] w w' := by
 refine (v57w s _ (fun v w' => ∃ i : Int, v = .int .i64 i /\ decide (i >= 0) = l.contains c /\ Only [] w w') w ?_).mono (by
  rintro e w' ⟨v, rfl, i, rfl, h⟩; exact ⟨i, rfl, h⟩)
 unfold v57v
 have hlen := h.len
 have hbig := h.big
 have hcap := h.cap
 refine ⟨fun nv i w' => ∃ n : Nat, n <= l.length /\ i = (n : Int) /\ nv = l.length - n /\ (∀ x, x ∈ l.take n -> x ≠ c) /\ w' = w, l.length, ⟨0, Nat.zero_le _, rfl, rfl, by simp, rfl⟩, ?_⟩
 rintro nv _ _ ⟨n, hn, rfl, rfl, hp, rfl⟩
 refine ⟨fun hc => ?_, fun hc => ?_⟩
 · have hlt : (n : Int) < s.n := of_decide_eq_true hc
   obtain ⟨ad, x, cs, g1, g2, g3, g4, g5, g6⟩ := h.get (Int.natCast_nonneg n) hlt
   rw [Int.toNat_natCast] at g2
   unfold rTx at g6
   subst g6
   refine ⟨ad, g1, _, g5, ?_⟩
   rw [T_eq]
   refine ⟨fun he => ⟨_, rfl, ?_, Only.refl _ _⟩, fun he => ⟨l.length - (n + 1), by omega, n + 1, by omega, by rw [wr' (by omega) (by omega)]; rfl, rfl, ?_, rfl⟩⟩
   · have he : c = x := of_decide_eq_true he
     rw [decide_eq_true (by omega)]
     symm
     rw [List.contains_iff_mem, he]
     exact List.mem_of_getElem? g2
   · intro y hy
     rw [List.take_add_one, g2] at hy
     simp only [Option.toList_some, List.mem_append, List.mem_singleton] at hy
     rcases hy with hy | rfl
     · exact hp y hy
     · rintro rfl
       simp at he
 · have hge : ¬ ((n : Int) < s.n) := of_decide_eq_false hc
   rw [List.take_of_length_le (by omega)] at hp
   refine ⟨_, rfl, ?_, Only.refl _ _⟩
   rw [decide_eq_false (by omega)]
   symm
   rw [Bool.eq_false_iff]
   intro hh
   exact hp c (List.contains_iff_mem.1 hh) rfl
theorem containsS_c {w : World} {F : Nat -> Prop} {s : Sl} {l : List (List UInt8)} (h : SliceF rTx 1 w F s l) (c : List UInt8) :
  Calls Tryz.prog 24 #[Sl.v s, .string (T c)] w fun e w' => e = .returned (.bool (l.contains c)) /\ Only [] w w' := by
 refine ret (v54w s _ (fun v w' => v = .bool (l.contains c) /\ Only [] w w') w ?_)
 unfold v54v
 refine (indexS_c h c).mono ?_
 rintro _ w1 ⟨i, rfl, hi, hO⟩
 exact ⟨i, rfl, by rw [hi], hO⟩
abbrev Cur (w : World) (b : Nat) (t : TypeId) (l : List UInt8) (i : Nat) (r : List Value) : Prop := Blk w b t (.string (T l) :: .int .i64 (i : Int) :: r)
theorem end_c {w : World} {b : Nat} {t : TypeId} {l : List UInt8} {i : Nat} {r : List Value} (h : Cur w b t l i r) :
  Calls Tryz.prog 30 #[.pointer (some ⟨b, 0, none⟩)] w fun e w' => e = .returned (.bool (decide (l.length <= i))) /\ Only [] w w' := by
 refine ret (v41w ⟨b, 0, none⟩ (fun v w' => v = .bool (decide (l.length <= i)) /\ Only [] w w') w ?_)
 unfold v41v
 refine ⟨i, Blk.at1 h 1 rfl, T l, Blk.at1 h 0 rfl, fun w0 hO => ⟨?_, hO⟩⟩
 rw [T_size]
 congr 1
 rw [decide_eq_decide]
 omega
theorem rest_c {w : World} {b : Nat} {t : TypeId} {l : List UInt8} {i : Nat} {r : List Value} (h : Cur w b t l i r) (hi : i <= l.length) :
  Calls Tryz.prog 47 #[.pointer (some ⟨b, 0, none⟩)] w fun e w' => e = .returned (.string (T (l.drop i))) /\ Only [] w w' := by
 refine ret (v42w ⟨b, 0, none⟩ (fun v w' => v = .string (T (l.drop i)) /\ Only [] w w') w ?_)
 unfold v42v
 refine ⟨T l, Blk.at1 h 0 rfl, i, Blk.at1 h 1 rfl, i, ⟨rfl, by rw [T_size]; exact hi⟩, fun w0 hO => ⟨?_, hO⟩⟩
 rw [T_ext, T_size, List.take_of_length_le (by rw [List.length_drop]; exact Nat.le_refl _)]
theorem take_while {p : UInt8 -> Bool} : ∀ {l : List UInt8} {n : Nat}, n <= l.length -> (∀ x, x ∈ l.take n -> p x = true) -> (∀ x, l[n]? = some x -> p x = false) -> l.takeWhile p = l.take n
 | [], n, _, _, _ => by simp
 | c :: r, 0, _, _, h => by
  have := h c rfl
  simp [this]
 | c :: r, n + 1, hn, h1, h2 => by
  have hc := h1 c (by simp)
  rw [List.takeWhile_cons, if_pos hc, List.take_succ_cons, take_while (n := n) (by simpa using hn) (fun x hx => h1 x (by simp [hx])) (fun x hx => h2 x (by simpa using hx))]
theorem row_c {w : World} {b : Nat} {t : TypeId} {l : List UInt8} {i : Nat} {r : List Value} (h : Cur w b t l i r) (hi : i <= l.length) (hl : l.length < 9223372036854775807) :
  Calls Tryz.prog 70 #[.pointer (some ⟨b, 0, none⟩)] w fun e w' => e = .returned (.string (T ((l.drop i).takeWhile wordB))) /\ Only [] w w' := by
 refine ret (v43w ⟨b, 0, none⟩ (fun v w' => v = .string (T ((l.drop i).takeWhile wordB)) /\ Only [] w w') w ?_)
 unfold v43v
 refine (rest_c h hi).mono ?_
 rintro _ w0 ⟨rfl, hO0⟩
 have hlr : (l.drop i).length <= l.length := by rw [List.length_drop]; omega
 generalize l.drop i = m at *
 refine ⟨T m, rfl, fun nv j w' => ∃ n : Nat, n <= m.length /\ j = (n : Int) /\ nv = m.length - n /\ (∀ x, x ∈ m.take n -> wordB x = true) /\ Only [] w w', m.length, ⟨0, Nat.zero_le _, rfl, rfl, by simp, hO0⟩, ?_⟩
 rintro nv _ w1 ⟨n, hn, rfl, rfl, hp, hO1⟩
 rw [T_size]
 refine ⟨fun b w' => (b = true -> ∃ x, m[n]? = some x /\ wordB x = true) /\ (b = false -> ∀ x, m[n]? = some x -> wordB x = false) /\ Only [] w w', ?_, fun hc => ?_, fun hc => ⟨fun e => (by cases e), fun _ x hx => ?_, hO1⟩⟩
 · rintro b w2 ⟨h1, h2, hO2⟩
   refine ⟨fun hb => ?_, fun hb => ⟨n, ⟨rfl, hn⟩, ?_, hO2⟩⟩
   · obtain ⟨x, hx, hw⟩ := h1 hb
     have hlt := (List.getElem?_eq_some_iff.1 hx).1
     refine ⟨m.length - (n + 1), by omega, n + 1, by omega, by rw [wr' (by omega) (by omega)]; rfl, rfl, fun y hy => ?_, hO2⟩
     rw [List.take_add_one, hx] at hy
     simp only [Option.toList_some, List.mem_append, List.mem_singleton] at hy
     rcases hy with hy | rfl
     · exact hp y hy
     · exact hw
   · rw [T_ext, List.drop_zero, Nat.sub_zero, take_while hn hp (h2 hb)]
 · have hlt : (n : Int) < m.length := of_decide_eq_true hc
   have hx : m[n]? = some (m[n]'(by omega)) := List.getElem?_eq_getElem (by omega)
   generalize m[n]'(by omega) = x at hx
   have hg : (T m)[Int.toNat (n : Int)]? = some x := by rw [T_get, Int.toNat_natCast, hx]
   refine ⟨x, ⟨Int.natCast_nonneg n, hg⟩, (letter_c w1 x).mono ?_⟩
   rintro _ w3 ⟨rfl, hO3⟩
   refine ⟨_, rfl, fun hb => ⟨fun _ => ⟨x, hx, by unfold wordB; rw [hb]; rfl⟩, fun e => (by cases e), hO1.tr0 hO3⟩, fun hb => ⟨x, ⟨Int.natCast_nonneg n, hg⟩, (digit_c w3 x).mono ?_⟩⟩
   rintro _ w4 ⟨rfl, hO4⟩
   refine ⟨_, rfl, fun hd => ⟨x, hx, by unfold wordB; rw [hd, Bool.or_true]⟩, fun hd y hy => ?_, hO1.tr0 (hO3.tr0 hO4)⟩
   rw [hx] at hy
   injection hy with hy
   subst hy
   unfold wordB
   rw [hb, hd]; rfl
 · have hge : ¬ (n : Int) < m.length := of_decide_eq_false hc
   have := (List.getElem?_eq_some_iff.1 hx).1
   omega
theorem hasPrefix_c (w : World) (l p : List UInt8) (hl : l.length < 9223372036854775807) (hp : p.length < 9223372036854775807) : Calls Tryz.prog 46 #[.string (T l), .string (T p)] w fun e w' => e = .returned (.bool (decide (l.take p.length = p))) /\ Only [] w w' := by
 refine ret (v60w _ _ (fun v w' => v = .bool (decide (l.take p.length = p)) /\ Only [] w w') w ?_)
 unfold v60v
 refine (ret (v32w (T l) (T p) (fun v w' => v = .bool (decide (l.take p.length = p)) /\ Only [] w w') w ?_)).mono ?_
 · unfold v32v
   rw [T_size, T_size]
   refine ⟨p.length, fun h => ⟨rfl, by have := of_decide_eq_true h; omega⟩, ?_, Only.refl _ _⟩
   rw [T_ext, T_eq, List.drop_zero, Nat.sub_zero]
   congr 1
   rw [Bool.eq_iff_iff]
   simp only [Bool.and_eq_true, decide_eq_true_eq]
   constructor
   · exact fun h => h.2
   · intro h
     refine ⟨?_, h⟩
     have := congrArg List.length h
     rw [List.length_take] at this
     omega
 · rintro _ w1 ⟨rfl, hO⟩
   exact ⟨_, rfl, rfl, hO⟩
theorem indexByte_while : ∀ (l : List UInt8) (c : UInt8), Lib.indexByte l c = if c ∈ l then ((l.takeWhile (· != c)).length : Int) else -1
 | [], c => by simp [Lib.indexByte]
 | b :: l, c => by
  rw [Lib.indexByte, indexByte_while l c]
  by_cases hbc : b = c
  · subst hbc; simp
  · by_cases hm : c ∈ l
    · have h1 : (b == c) = false := by simpa using hbc
      have h2 : (b != c) = true := by simpa using hbc
      have h3 : c ∈ b :: l := by simp [hm]
      rw [h1, if_pos hm, if_pos h3, List.takeWhile_cons, if_pos h2]
      simp
    · have h1 : (b == c) = false := by simpa using hbc
      have h3 : ¬ c ∈ b :: l := by simp [hm]; exact fun e => hbc e.symm
      rw [h1, if_neg hm, if_neg h3]
      simp
theorem while_none {c : UInt8} : ∀ {l : List UInt8}, ¬ c ∈ l -> l.takeWhile (· != c) = l
 | [], _ => rfl
 | b :: l, h => by
  simp only [List.mem_cons, not_or] at h
  rw [List.takeWhile_cons, if_pos (by simpa using fun e => h.1 e.symm), while_none h.2]
theorem while_take {p : UInt8 -> Bool} : ∀ {l : List UInt8}, l.takeWhile p = l.take (l.takeWhile p).length
 | [] => rfl
 | b :: l => by
  rw [List.takeWhile_cons]
  split
  · rw [List.length_cons, List.take_succ_cons, <- while_take]
  · rfl
theorem cut_c (w : World) (l : List UInt8) (c : UInt8) (hl : l.length < 9223372036854775807) : Calls Tryz.prog 48 #[.string (T l), .string (T [c])] w fun e w' => ∃ (s : ByteArray) (b : Bool), e = .returned (.tuple #[.string (T (l.takeWhile (· != c))), .string s, .bool b]) /\ Only [] w w' := by
 refine (v59w _ _ (fun v w' => ∃ (s : ByteArray) (b : Bool), v = (.tuple #[.string (T (l.takeWhile (· != c))), .string s, .bool b]) /\ Only [] w w') w ?_).mono (by
  rintro e w' ⟨v, rfl, s, b, rfl, h⟩; exact ⟨s, b, rfl, h⟩)
 unfold v59v
 refine (v31w (T l) (T [c]) (fun v w' => ∃ (s : ByteArray) (b : Bool), v = (.tuple #[.string (T (l.takeWhile (· != c))), .string s, .bool b]) /\ Only [] w w') w ?_).mono ?_
 · unfold v31v
   refine (Tryz.stringslite_Index_one (T l) c w).mono ?_
   rintro _ _ ⟨rfl, rfl⟩
   have e : (T l).data.toList = l := rfl
   rw [e, indexByte_while]
   refine ⟨_, rfl, fun h => ?_, fun h => ?_⟩
   · by_cases hm : c ∈ l
     · rw [if_pos hm]
       have hlt : (l.takeWhile (· != c)).length < l.length := by
        have h1 := List.takeWhile_append_dropWhile (p := (· != c)) (l := l)
        have h2 := congrArg List.length h1
        rw [List.length_append] at h2
        have h3 : l.dropWhile (· != c) ≠ [] := by
         intro h3
         rw [h3, List.append_nil] at h1
         rw [<- h1] at hm
         have := List.all_takeWhile (p := (· != c)) (l := l)
         rw [List.all_eq_true] at this
         have := this c (by rw [h1] at hm ⊢; exact hm)
         simp at this
        have h4 := List.length_pos_iff.2 h3
        omega
       have hk : (T l).extract 0 (l.takeWhile (· != c)).length = T (l.takeWhile (· != c)) := by
        rw [T_ext, List.drop_zero, Nat.sub_zero, <- while_take]
       refine ⟨(l.takeWhile (· != c)).length, ⟨rfl, by rw [T_size]; omega⟩, (l.takeWhile (· != c)).length + 1, ⟨by rw [T_size, wr' (by simp; omega) (by simp; omega)]; rfl, by rw [T_size]; omega⟩, fun w1 hO => ⟨(T l).extract ((l.takeWhile (· != c)).length + 1) (T l).size, true, ?_, hO⟩⟩
       rw [hk]
     · rw [if_neg hm] at h
       exact absurd (of_decide_eq_true h) (by omega)
   · by_cases hm : c ∈ l
     · rw [if_pos hm] at h
       exact absurd (of_decide_eq_false h) (by omega)
     · rw [while_none hm]
       exact ⟨_, _, rfl, Only.refl _ _⟩
 · rintro _ w1 ⟨v, rfl, s, b, rfl, hO⟩
   exact ⟨_, s, b, rfl, s, b, rfl, hO⟩
end Go.Proofs.YtfknfhajdiccgaaGreatDoor.Con
namespace Go.Proofs.YtfknfhajdiccgaaGreatDoor.Con
open Go Go.RowKit Go.Kt Go.Kt.V Go.Proofs.YtfknfhajdiccgaaGreatDoor.Vc
set_option linter.unusedSimpArgs false
set_option linter.unusedVariables false
set_option maxHeartbeats 4000000
theorem buildB (w : World) (l : List UInt8) {n : Nat} {parts : Array (Nat × Value)} (hp : parts = (((l.map byteV).zipIdx 0).map fun x => (x.2, x.1)).toArray) (hn : l.length = n) (h0 : 0 < n) (hsm : n * 1 <= 16777216) :
  ∃ s w', (Instr.buildSlice 114 n parts).run Tryz.prog w = .ok (Sl.v s) w' /\ Own rByte 1 5 w.heap.size w' (fun _ => True) s l /\ Only [] w w' /\ s.a = some ⟨w.heap.size, 0, none⟩ := by
 obtain ⟨s, w', h1, h2, h3, h4, _⟩ := build_own (P := Tryz.prog) (t := 114) (e := 5) (i := Tryz.t5) (w := w) (F := fun _ => True) (r := rByte) (size := 1) (vs := l.map byteV) (xs := l) (len := n) (by kernel_rfl) (by kernel_rfl) rfl rfl (by decide) hp (by rw [List.length_map]; exact hn) h0 hsm rByte_ok (by
  clear hp hn
  induction l with
  | nil => exact trivial
  | cons a l ih => exact ⟨⟨rfl, rfl⟩, ih⟩)
 exact ⟨s, w', h1, h2, h3, h4⟩
theorem all2_tx (l : List (List UInt8)) (w : World) : Els rTx 1 w (fun _ => True) l ((l.map fun x => Value.string (T x)).map fun v => v.cells.toList) := by
 induction l with
 | nil => exact trivial
 | cons a l ih => exact ⟨⟨rfl, rfl⟩, ih⟩
theorem buildS (w : World) (l : List (List UInt8)) {n : Nat} {parts : Array (Nat × Value)} (hp : parts = (((l.map fun x => Value.string (T x)).zipIdx 0).map fun x => (x.2, x.1)).toArray) (hn : l.length = n) (h0 : 0 < n) (hsm : n * 1 <= 16777216) :
  ∃ s w', (Instr.buildSlice 26 n parts).run Tryz.prog w = .ok (Sl.v s) w' /\ Own rTx 1 9 w.heap.size w' (fun _ => True) s l /\ Only [] w w' := by
 obtain ⟨s, w', h1, h2, h3, _⟩ := build_own (P := Tryz.prog) (t := 26) (e := 9) (i := Tryz.t9) (w := w) (F := fun _ => True) (r := rTx) (size := 1) (vs := l.map fun x => Value.string (T x)) (xs := l) (len := n) (by kernel_rfl) (by kernel_rfl) rfl rfl (by decide) hp (by rw [List.length_map]; exact hn) h0 hsm rTx_ok (all2_tx l w)
 exact ⟨s, w', h1, h2, h3⟩
theorem flatO {α : Type} {r : Rp α} {size : Nat} {e : TypeId} {B : Nat} {w : World} {F : Nat -> Prop} {s : Sl} {xs : List α} (hr : r.Ok) (hf : ∀ w F G x cs, r w F x cs -> r w G x cs) (h : Own r size e B w F s xs) : SliceF r size w (fun k => B <= k /\ s.a = some ⟨k, 0, none⟩) s xs := by
 rcases h with ⟨rfl, rfl⟩ | ⟨g, css, tail, a1, a2, a4, a5, a6, a7, a9, a8⟩
 · exact SliceF.nil _ _ _ _
 · have h' : Own r size e B w (fun _ => False) s xs := .inr ⟨g, css, tail, a1, a2, a4, a5, a6, a7, a9, All2.imp (fun _ _ h => ⟨h.1, hf _ _ _ _ _ h.2⟩) a8⟩
   exact (h'.slice hr).mono hr fun k hk => hk.elim False.elim id
theorem flatB {e : TypeId} {B : Nat} {w : World} {F : Nat -> Prop} {s : Sl} {xs : List UInt8} (h : Own rByte 1 e B w F s xs) : SliceF rByte 1 w (fun k => B <= k /\ s.a = some ⟨k, 0, none⟩) s xs := flatO rByte_ok (fun _ _ _ _ _ h => h) h
theorem flatS {e : TypeId} {B : Nat} {w : World} {F : Nat -> Prop} {s : Sl} {xs : List (List UInt8)} (h : Own rTx 1 e B w F s xs) : SliceF rTx 1 w (fun k => B <= k /\ s.a = some ⟨k, 0, none⟩) s xs := flatO rTx_ok (fun _ _ _ _ _ h => h) h
def skN : Bool -> List UInt8 -> Nat
 | _, [] => 0
 | true, c :: r => 1 + skN (c != 10) r
 | false, c :: r => if blankB c then 1 + skN false r else if c == 47 && r.head? == some 47 then 1 + skN true r else 0
theorem skN_le : ∀ {b : Bool} {l : List UInt8}, skN b l <= l.length
 | b, [] => by simp [skN]
 | true, c :: r => by
  rw [skN, List.length_cons]
  have := skN_le (b := c != 10) (l := r)
  omega
 | false, c :: r => by
  rw [skN, List.length_cons]
  have h1 := skN_le (b := false) (l := r)
  have h2 := skN_le (b := true) (l := r)
  split
  · omega
  · split <;> omega
theorem skN_note : ∀ (l : List UInt8), skN true l = (l.takeWhile (· != 10)).length + skN false (l.drop (l.takeWhile (· != 10)).length)
 | [] => rfl
 | c :: r => by
  by_cases hc : c = 10
  · subst hc
    rw [skN]
    simp [skN, blankB]
  · have h : (c != 10) = true := by simpa using hc
    rw [skN, h, skN_note r, List.takeWhile_cons, if_pos h, List.length_cons, List.drop_succ_cons]
    omega
theorem skN_slash {l : List UInt8} (h : l.take 2 = [47, 47]) : skN false l = (l.takeWhile (· != 10)).length + skN false (l.drop (l.takeWhile (· != 10)).length) := by
 match l, h with
 | a :: b :: r, h =>
  simp only [List.take_succ_cons, List.take_zero, List.cons.injEq, and_true] at h
  obtain ⟨rfl, rfl⟩ := h
  have e : skN false (47 :: 47 :: r) = 1 + skN true (47 :: r) := by
   conv => lhs; rw [skN]
   rw [if_neg (by decide), if_pos (by simp)]
  have e2 := skN_note (47 :: r)
  have e3 : (47 :: 47 :: r : List UInt8).takeWhile (· != 10) = 47 :: (47 :: r : List UInt8).takeWhile (· != 10) := by
   rw [List.takeWhile_cons, if_pos (by decide)]
  rw [e, e2, e3, List.length_cons, List.drop_succ_cons]
  omega
theorem drop_cons {l : List UInt8} {j : Nat} {x : UInt8} (h : l[j]? = some x) : l.drop j = x :: l.drop (j + 1) := by
 obtain ⟨h1, h2⟩ := List.getElem?_eq_some_iff.1 h
 rw [List.drop_eq_getElem_cons h1, h2]
theorem skip_c {w : World} {b : Nat} {t : TypeId} {l : List UInt8} {i : Nat} {r : List Value} (h : Cur w b t l i r) (hi : i <= l.length) (hl : l.length < 9223372036854775807) :
  Calls Tryz.prog 29 #[.pointer (some ⟨b, 0, none⟩)] w fun e w' => e = .returned (.tuple #[]) /\ Only [b] w w' /\ Cur w' b t l (i + skN false (l.drop i)) r := by
 refine ret (v44w ⟨b, 0, none⟩ (fun v w' => v = .tuple #[] /\ Only [b] w w' /\ Cur w' b t l (i + skN false (l.drop i)) r) w ?_)
 unfold v44v
 refine ⟨fun nv w' => ∃ j : Nat, j <= l.length /\ nv = l.length - j /\ i + skN false (l.drop i) = j + skN false (l.drop j) /\ Only [b] w w' /\ Cur w' b t l j r, l.length - i, ⟨i, hi, rfl, rfl, Only.refl _ _, h⟩, ?_⟩
 rintro nv w0 ⟨j, hj, rfl, hjs, hO0, h0⟩
 have kp : ∀ {u u' : World} {n : Nat}, Only [] u u' -> Cur u b t l n r -> Cur u' b t l n r := fun hO hC => (hO.block b hC.lt (by simp)).trans hC
 refine (end_c h0).mono ?_
 rintro _ w1 ⟨rfl, hO1⟩
 have h1 := kp hO1 h0
 refine ⟨_, rfl, fun hc => ?_, fun hc => ⟨rfl, hO0.trans hO1 (by simp), ?_⟩⟩
 · have hlt : j < l.length := by simpa using hc
   have hx : l[j]? = some l[j] := List.getElem?_eq_getElem hlt
   generalize l[j] = x at hx
   have hd := drop_cons hx
   refine ⟨T l, Blk.at1 h1 0 rfl, j, Blk.at1 h1 1 rfl, x, ⟨Int.natCast_nonneg j, by rw [T_get, Int.toNat_natCast, hx]⟩, fun w2 hO2 => ?_⟩
   obtain ⟨s, w3, k1, k2, k3, _⟩ := buildB w2 [9, 10, 13, 32] (n := 4) (parts := #[(0, .int .u8 9), (1, .int .u8 10), (2, .int .u8 13), (3, .int .u8 32)]) rfl rfl (by decide) (by decide)
   refine ⟨s, w3, k1, (one_c (flatB k2) x).mono ?_⟩
   rintro _ w4 ⟨rfl, hO4⟩
   have hO14 := hO2.tr0 (k3.tr0 hO4)
   have h4 := kp hO14 h1
   have hO04 : Only [b] w w4 := hO0.trans (hO1.tr0 hO14) (by simp)
   refine ⟨_, rfl, fun hb => ⟨j, Blk.at1 h4 1 rfl, b, 1, _, t, by rw [addr_lit], h4, by simp, fun w5 hO5 hB5 => ⟨l.length - (j + 1), by omega, j + 1, by omega, rfl, ?_, hO04.trans hO5 (by simp), ?_⟩⟩, fun hb => (rest_c h4 hj).mono ?_⟩
   · have e : blankB x = true := hb
     rw [hjs, hd, skN, if_pos e]
     omega
   · rw [wr' (by omega) (by omega)] at hB5
     exact hB5
   rintro _ w6 ⟨rfl, hO6⟩
   have h6 := kp hO6 h4
   have hlr : (l.drop j).length <= l.length := by rw [List.length_drop]; omega
   refine ⟨_, rfl, (hasPrefix_c w6 (l.drop j) [47, 47] (by omega) (by decide)).mono ?_⟩
   rintro _ w7 ⟨rfl, hO7⟩
   have h7 := kp hO7 h6
   refine ⟨_, rfl, fun hs => (rest_c h7 hj).mono ?_, fun hs => ⟨rfl, hO04.trans (hO6.tr0 hO7) (by simp), ?_⟩⟩
   · rintro _ w8 ⟨rfl, hO8⟩
     have h8 := kp hO8 h7
     refine ⟨_, rfl, (cut_c w8 (l.drop j) 10 (by omega)).mono ?_⟩
     rintro _ w9 ⟨s9, b9, rfl, hO9⟩
     have h9 := kp hO9 h8
     have hs' : (l.drop j).take 2 = [47, 47] := of_decide_eq_true hs
     have hk := skN_slash hs'
     have hlen : ((l.drop j).takeWhile (· != 10)).length <= (l.drop j).length := by
      rw [while_take, List.length_take]
      exact Nat.min_le_right _ _
     have hpos : 0 < ((l.drop j).takeWhile (· != 10)).length := by
      match hq : l.drop j, hs' with
      | a :: r', hs' =>
       have : a = 47 := by
        match r', hs' with
        | b' :: r'', hs' => simp at hs'; exact hs'.1
       subst this
       simp
     have hld : (l.drop j).length = l.length - j := List.length_drop
     generalize hn : ((l.drop j).takeWhile (· != 10)).length = n at *
     refine ⟨_, s9, b9, rfl, j, Blk.at1 h9 1 rfl, b, 1, _, t, by rw [addr_lit], h9, by simp, fun w10 hO10 hB10 => ⟨l.length - (j + n), by omega, j + n, by omega, rfl, ?_, (hO04.trans (hO6.tr0 (hO7.tr0 (hO8.tr0 hO9))) (by simp)).trans hO10 (by simp), ?_⟩⟩
     · rw [hjs, hk, List.drop_drop]
       omega
     · rw [T_size, hn, wr' (by omega) (by omega)] at hB10
       exact hB10
   · have hs : ¬ (l.drop j).take 2 = [47, 47] := of_decide_eq_false hs
     have hb : blankB x = false := hb
     have hz : skN false (l.drop j) = 0 := by
      rw [hd, skN, if_neg (by simp [hb]), if_neg]
      intro hh
      apply hs
      rw [hd]
      simp only [Bool.and_eq_true, beq_iff_eq] at hh
      obtain ⟨rfl, hh⟩ := hh
      cases hr : l.drop (j + 1) with
      | nil => rw [hr] at hh; simp at hh
      | cons y z =>
       rw [hr] at hh
       simp only [List.head?_cons, Option.some.injEq] at hh
       rw [hh]; rfl
     rw [hjs, hz]
     exact h7
 · have hge : l.length <= j := by simpa using hc
   have hz : l.drop j = [] := List.drop_of_length_le hge
   rw [hjs, hz]
   exact h1
def Er (w : World) : Prop := ∃ tp p, w.var? Tryz.prog "strconv.ErrRange" = some #[.iface tp p]
theorem er_num : Tryz.prog.globalNamed "strconv.ErrRange" = some 2 := by kernel_rfl
theorem Er.keep {w w' : World} (h : Er w) (hk : 2 < w.heap.size -> w'.heap[2]? = w.heap[2]?) : Er w' := by
 obtain ⟨tp, p, h⟩ := h
 refine ⟨tp, p, ?_⟩
 unfold World.var? at h ⊢
 rw [er_num] at h ⊢
 simp only [Option.bind_some] at h ⊢
 rw [hk]
 · exact h
 · refine Decidable.byContradiction fun hn => ?_
   rw [Array.getElem?_eq_none (by omega)] at h
   cases h
theorem Er.lt {w : World} (h : Er w) : 2 < w.heap.size := by
 obtain ⟨tp, p, h⟩ := h
 unfold World.var? at h
 rw [er_num] at h
 simp only [Option.bind_some] at h
 refine Decidable.byContradiction fun hn => ?_
 rw [Array.getElem?_eq_none (by omega)] at h
 cases h
theorem Er.only {w w' : World} (h : Er w) (hO : Only [] w w') : Er w' := h.keep fun hlt => hO.block _ hlt (by simp)
def decV (a : Nat) (ds : List UInt8) : Nat := ds.foldl (fun a c => a * 10 + (c.toNat - 48)) a
theorem decV_ge : ∀ (ds : List UInt8) (a : Nat), a <= decV a ds
 | [], a => Nat.le_refl _
 | c :: r, a => by
  have := decV_ge r (a * 10 + (c.toNat - 48))
  show a <= decV (a * 10 + (c.toNat - 48)) r
  omega
theorem pum : ∀ (ds : List UInt8) (a : Nat), (∀ c, c ∈ ds -> digitB c = true) -> a <= 18446744073709551615 ->
  Lib.parseUintM 18446744073709551615 a ds = if decV a ds <= 18446744073709551615 then .ok (decV a ds) else .range
 | [], a, _, h => by rw [Lib.parseUintM]; exact (if_pos h).symm
 | c :: r, a, hd, h => by
  have hc := hd c (by simp)
  simp only [digitB, Bool.and_eq_true, decide_eq_true_eq] at hc
  have e : decV a (c :: r) = decV (a * 10 + (c.toNat - 48)) r := rfl
  have hge := decV_ge r (a * 10 + (c.toNat - 48))
  rw [Lib.parseUintM, if_pos hc, e]
  split
  · rw [if_neg (by omega)]
  · split
    · rw [if_neg (by omega)]
    · rw [pum r _ (fun x hx => hd x (by simp [hx])) (by omega)]
theorem pib {ds : List UInt8} (hd : ∀ c, c ∈ ds -> digitB c = true) (hne : ds ≠ []) : Lib.parseIntB 64 ds = if decV 0 ds < 9223372036854775808 then .ok (decV 0 ds : Int) else .range := by
 match ds, hne with
 | c :: r, _ =>
  have hc := hd c (by simp)
  simp only [digitB, Bool.and_eq_true, decide_eq_true_eq] at hc
  have h1 : ¬ (c.toNat = 43 ∨ c.toNat = 45) := by omega
  have h2 : ¬ c.toNat = 45 := by omega
  have h3 : Lib.parseUintB 64 (c :: r) = Lib.parseUintM 18446744073709551615 0 (c :: r) := by
   rw [Lib.parseUintB, if_neg (by simp)]
  unfold Lib.parseIntB
  dsimp only
  rw [if_neg h1, h3, pum _ _ hd (by decide)]
  by_cases hv : decV 0 (c :: r) <= 18446744073709551615
  · rw [if_pos hv]
    by_cases hw : decV 0 (c :: r) < 9223372036854775808
    · rw [if_pos hw]
      simp [h2]; omega
    · rw [if_neg hw]
      simp [h2]; omega
  · rw [if_neg hv, if_neg (by omega)]
def parseM (l : List UInt8) : Nat × Nat × Int :=
 if l = [] then (0, 0, 3) else if l.takeWhile digitB = [] ∨ (1 < (l.takeWhile digitB).length /\ l.head? = some 48) then (0, 0, 4)
 else if decV 0 (l.takeWhile digitB) < 9223372036854775808 then (decV 0 (l.takeWhile digitB), (l.takeWhile digitB).length, 0) else (0, 0, 20)
theorem while_all {p : UInt8 -> Bool} {l : List UInt8} : ∀ c, c ∈ l.takeWhile p -> p c = true := by
 have := List.all_takeWhile (p := p) (l := l)
 rwa [List.all_eq_true] at this
theorem cparse_c {w : World} {l : List UInt8} (hE : Er w) (hl : l.length < 281474976710656) :
  Calls Tryz.prog 72 #[.string (T l)] w fun e w' => e = .returned (.tuple #[.int .i64 (parseM l).1, .int .i64 (parseM l).2.1, .int .i64 (parseM l).2.2]) /\ Only [] w w' := by
 refine ret (v2w (T l) (fun v w' => v = .tuple #[.int .i64 (parseM l).1, .int .i64 (parseM l).2.1, .int .i64 (parseM l).2.2] /\ Only [] w w') w ?_)
 unfold v2v
 refine ⟨fun nv j w' => ∃ n : Nat, n <= l.length /\ j = (n : Int) /\ nv = l.length - n /\ (∀ x, x ∈ l.take n -> digitB x = true) /\ Only [] w w', l.length, ⟨0, Nat.zero_le _, rfl, rfl, by simp, Only.refl _ _⟩, ?_⟩
 rintro nv _ w0 ⟨n, hn, rfl, rfl, hp, hO0⟩
 rw [T_size]
 refine ⟨fun b w' => (b = true -> ∃ x, l[n]? = some x /\ digitB x = true) /\ (b = false -> ∀ x, l[n]? = some x -> digitB x = false) /\ Only [] w w', ?_, fun hc => ?_, fun hc => ⟨fun e => (by cases e), fun _ x hx => ?_, hO0⟩⟩
 · rintro b w1 ⟨h1, h2, hO1⟩
   refine ⟨fun hb => ?_, fun hb => ?_⟩
   · obtain ⟨x, hx, hw⟩ := h1 hb
     have hlt := (List.getElem?_eq_some_iff.1 hx).1
     refine ⟨l.length - (n + 1), by omega, n + 1, by omega, by rw [wr' (by omega) (by omega)]; rfl, rfl, fun y hy => ?_, hO1⟩
     rw [List.take_add_one, hx] at hy
     simp only [Option.toList_some, List.mem_append, List.mem_singleton] at hy
     rcases hy with hy | rfl
     · exact hp y hy
     · exact hw
   have hds := take_while hn hp (h2 hb)
   have hdl : (l.takeWhile digitB).length = n := by rw [hds, List.length_take]; omega
   have e0 : (ByteArray.mk #[]) = T [] := rfl
   rw [e0, T_eq]
   refine ⟨fun h0 => ⟨?_, hO1⟩, fun h0 => ?_⟩
   · have h0 : l = [] := of_decide_eq_true h0
     rw [parseM, if_pos h0]; rfl
   have h0 : ¬ l = [] := of_decide_eq_false h0
   refine ⟨fun b w' => b = decide (l.takeWhile digitB = [] ∨ (1 < (l.takeWhile digitB).length /\ l.head? = some 48)) /\ Only [] w w', ?_, fun hz => ?_, fun hz => ?_⟩
   · rintro b w2 ⟨rfl, hO2⟩
     refine ⟨fun hb => ⟨?_, hO2⟩, fun hb => ⟨n, ⟨rfl, hn⟩, ?_⟩⟩
     · rw [parseM, if_neg h0, if_pos (of_decide_eq_true hb)]; rfl
     have hb := of_decide_eq_false hb
     have hx : (T l).extract 0 n = T (l.takeWhile digitB) := by rw [T_ext, List.drop_zero, Nat.sub_zero, hds]
     rw [hx]
     have hne : l.takeWhile digitB ≠ [] := fun e => hb (.inl e)
     have hpi := pib (while_all (p := digitB) (l := l)) hne
     have hsz : (T (l.takeWhile digitB)).size <= 281474976710656 := by rw [T_size]; omega
     by_cases hv : decV 0 (l.takeWhile digitB) < 9223372036854775808
     · rw [if_pos hv] at hpi
       refine (Tryz.strconv_ParseInt_10_at64_ok (T (l.takeWhile digitB)) (Nat.le_trans hsz (by decide)) _ hpi w2).mono ?_
       rintro _ w3 ⟨rfl, hw⟩
       have hO3 : Only [] w2 w3 := by
        rcases hw with rfl | ⟨s, rfl⟩
        · exact Only.refl _ _
        · exact Only.of_below (Lib.bytesWorld_below _ _ _)
       refine ⟨_, ⟨.nilIface, rfl⟩, rfl, .inl rfl, fun e => (by cases e), fun _ => ⟨?_, hO2.tr0 hO3⟩⟩
       rw [parseM, if_neg h0, if_neg hb, if_pos hv, hdl]
     · rw [if_neg hv] at hpi
       obtain ⟨tp, p, hvar⟩ := hE.only hO2
       refine (Tryz.strconv_ParseInt_10_at64_range_var (T (l.takeWhile digitB)) hsz hpi tp p w2 hvar).mono ?_
       rintro _ w3 ⟨N, rfl, _, _, hw⟩
       refine ⟨_, ⟨.iface _ _, rfl⟩, rfl, .inr ⟨_, _, rfl⟩, fun _ => ⟨?_, hO2.tr0 (Only.of_below hw)⟩, fun e => (by cases e)⟩
       rw [parseM, if_neg h0, if_neg hb, if_neg hv]; rfl
   · have hz : n = 0 := by simpa using hz
     subst hz
     refine ⟨?_, hO1⟩
     symm
     rw [decide_eq_true (.inl (List.eq_nil_of_length_eq_zero hdl))]
     rfl
   · have hz : n ≠ 0 := by simpa using hz
     obtain ⟨x, r, rfl⟩ : ∃ x r, l = x :: r := by
      cases l with
      | nil => exact absurd rfl h0
      | cons x r => exact ⟨x, r, rfl⟩
     refine ⟨x, fun _ => ⟨Int.le_refl _, by rw [T_get]; rfl⟩, ?_, hO1⟩
     have hne : (x :: r).takeWhile digitB ≠ [] := fun e => by rw [e] at hdl; exact hz hdl.symm
     rw [hdl, Bool.eq_iff_iff]
     simp only [Bool.and_eq_true, decide_eq_true_eq, beq_iff_eq, List.head?_cons, Option.some.injEq]
     constructor
     · rintro ⟨h1, h2⟩
       exact .inr ⟨by omega, UInt8.toNat_inj.1 (by show x.toNat = 48; omega)⟩
     · rintro (h | ⟨h1, rfl⟩)
       · exact absurd h hne
       · exact ⟨by omega, rfl⟩
 · have hlt : (n : Int) < l.length := of_decide_eq_true hc
   have hx : l[n]? = some (l[n]'(by omega)) := List.getElem?_eq_getElem (by omega)
   generalize l[n]'(by omega) = x at hx
   refine ⟨x, ⟨Int.natCast_nonneg n, by rw [T_get, Int.toNat_natCast, hx]⟩, (cdigit_c w0 x).mono ?_⟩
   rintro _ w3 ⟨rfl, hO3⟩
   refine ⟨_, rfl, fun hb => ⟨x, hx, hb⟩, fun hd y hy => ?_, hO0.tr0 hO3⟩
   rw [hx] at hy
   injection hy with hy
   subst hy
   exact hd
 · have hge : ¬ (n : Int) < l.length := of_decide_eq_false hc
   have := (List.getElem?_eq_some_iff.1 hx).1
   omega
structure Tk where
 k : Int
 t : List UInt8
 n : Int
 a : Int
deriving DecidableEq
def Tk.v (x : Tk) : Value := .agg #[.int .i64 x.k, .string (T x.t), .int .i64 x.n, .int .i64 x.a]
def rTk : Rp Tk := fun _ _ x cs => cs = [.int .i64 x.k, .string (T x.t), .int .i64 x.n, .int .i64 x.a]
theorem rTk_ok : rTk.Ok where
 keep h _ := h
 inHeap h := h
 mono h _ := h
 one := by
  rintro w F x cs h v hv
  unfold rTk at h
  subst h
  simp only [List.mem_cons, List.not_mem_nil, or_false] at hv
  rcases hv with rfl | rfl | rfl | rfl <;> rfl
abbrev OwnK (B : Nat) (w : World) (s : Sl) (xs : List Tk) : Prop := Own rTk 4 60 B w (fun _ => True) s xs
theorem OwnK.of {B : Nat} {w : World} {F : Nat -> Prop} {s : Sl} {xs : List Tk} (h : Own rTk 4 60 B w F s xs) : OwnK B w s xs := h.mono rTk_ok fun _ _ => trivial
theorem OwnK.sl {B : Nat} {w : World} {s : Sl} {xs : List Tk} (h : OwnK B w s xs) : SliceF rTk 4 w (fun k => B <= k /\ s.a = some ⟨k, 0, none⟩) s xs := flatO rTk_ok (fun _ _ _ _ _ h => h) h
theorem OwnK.flat {B : Nat} {w : World} {s : Sl} {xs : List Tk} (h : OwnK B w s xs) : Own rTk 4 60 B w (fun _ => False) s xs := by
 rcases h with h | ⟨g, css, tail, a1, a2, a4, a5, a6, a7, a9, a8⟩
 · exact .inl h
 · exact .inr ⟨g, css, tail, a1, a2, a4, a5, a6, a7, a9, All2.imp (fun _ _ h => h) a8⟩
theorem OwnK.keep {B : Nat} {w w' : World} {s : Sl} {xs : List Tk} (h : OwnK B w s xs) (hk : ∀ k, B <= k /\ s.a = some ⟨k, 0, none⟩ -> k < w.heap.size -> w'.heap[k]? = w.heap[k]?) : OwnK B w' s xs :=
 OwnK.of (h.flat.keep rTk_ok fun k hF hlt => hk k (hF.elim False.elim id) hlt)
theorem OwnK.only {B : Nat} {w w' : World} {s : Sl} {xs : List Tk} (h : OwnK B w s xs) (hO : Only [] w w') : OwnK B w' s xs := h.keep fun k _ hlt => hO.block k hlt (by simp)
theorem OwnK.p {B : Nat} {w w' : World} {s : Sl} {xs : List Tk} {D : Nat -> Prop} (h : OwnK B w s xs) (hO : OnlyP D w w') (hD : ∀ k, B <= k -> s.a = some ⟨k, 0, none⟩ -> ¬ D k) : OwnK B w' s xs := h.keep fun k hk hlt => hO.block k hlt (hD k hk.1 hk.2)
theorem push_k {w : World} {B : Nat} {s : Sl} {xs : List Tk} (t : Tk) (hs : OwnK B w s xs) (hB : B <= w.heap.size) (hm : (xs.length + 1) * 40 <= 140737488355328) :
  ∃ y w1, (Instr.buildSlice 54 1 #[(0, t.v)]).run Tryz.prog w = .ok (Sl.v y) w1 /\ Only [] w w1 /\ ∃ s' w2, (Builtin.append_ #[54, 54] 54 #[Sl.v s, Sl.v y]).run Tryz.prog w1 = .ok (Sl.v s') w2 /\ OwnK B w2 s' (xs ++ [t]) /\ OnlyP (fun k => B <= k /\ s.a = some ⟨k, 0, none⟩) w1 w2 := by
 obtain ⟨y, w1, k1, k2, s', w2, k3, k4, ⟨gs, k5, k6⟩, _⟩ := app_one (P := Tryz.prog) (t := 54) (ty := 54) (e := 60) (i := Tryz.t60) (bytes := 40) (size := 4) (v := t.v) (x := t) (G := fun _ => False) (by kernel_rfl) (by kernel_rfl) rfl rfl rfl rfl (by decide) (by decide) (by decide) rTk_ok hs hB rfl rfl (fun k hk _ => hk.elim) hm
 exact ⟨y, w1, k1, k2, s', w2, k3, OwnK.of k4, k5.p fun g hg => .inl ⟨(k6 g hg).2.1, (k6 g hg).1⟩⟩
def wordsL : List (List UInt8) := [[97, 102, 116, 101, 114], [97, 108, 119, 97, 121, 115], [99, 104, 97, 114, 116], [100, 101, 101, 112], [101, 109, 105, 116], [101, 110, 116, 101, 114], [104, 105, 115, 116, 111, 114, 121], [105, 110], [105, 110, 105, 116, 105, 97, 108], [108, 101, 97, 118, 101], [111, 110], [112, 97, 114, 97, 108, 108, 101, 108], [114, 97, 105, 115, 101], [115, 101, 116], [115, 116, 97, 116, 101], [118, 97, 114]]
theorem words_c (w : World) : Calls Tryz.prog 28 #[] w fun e w' => ∃ s : Sl, e = .returned s.v /\ Own rTx 1 9 w.heap.size w' (fun _ => True) s wordsL /\ Only [] w w' := by
 refine (v40w (fun v w' => ∃ s : Sl, v = s.v /\ Own rTx 1 9 w.heap.size w' (fun _ => True) s wordsL /\ Only [] w w') w ?_).mono (by
  rintro e w' ⟨v, rfl, s, rfl, h⟩; exact ⟨s, rfl, h⟩)
 unfold v40v
 obtain ⟨s, w', h1, h2, h3⟩ := buildS w wordsL (n := 16) rfl rfl (by decide) (by decide)
 exact ⟨s, w', h1, s, rfl, h2, h3⟩
structure Cut (w : World) (b : Nat) (l : List UInt8) (i : Nat) (rs : Sl) (acc : List Tk) : Prop where
 blk : ∃ ws : Sl, Blk w b 75 [.string (T l), .int .i64 (i : Int), ws.v, rs.v] /\ SliceF rTx 1 w (fun k => k < b) ws wordsL
 own : OwnK (b + 1) w rs acc
 er : Er w
 gb : 2 < b
 il : i <= l.length
 ll : l.length <= 16384
theorem Cut.lt {w : World} {b : Nat} {l : List UInt8} {i : Nat} {rs : Sl} {acc : List Tk} (h : Cut w b l i rs acc) : b < w.heap.size := by
 obtain ⟨ws, h1, _⟩ := h.blk
 exact h1.lt
theorem Cut.only {w w' : World} {b : Nat} {l : List UInt8} {i : Nat} {rs : Sl} {acc : List Tk} (h : Cut w b l i rs acc) (hO : Only [] w w') : Cut w' b l i rs acc := by
 obtain ⟨ws, h1, h2⟩ := h.blk
 exact ⟨⟨ws, (hO.block b h1.lt (by simp)).trans h1, SliceF.only rTx_ok (by decide) h2 hO (by simp)⟩, h.own.only hO, h.er.only hO, h.gb, h.il, h.ll⟩
theorem Cut.move {w w' : World} {b : Nat} {l : List UInt8} {i j : Nat} {rs : Sl} {acc : List Tk} (h : Cut w b l i rs acc) (hO : Only [b] w w') (hj : j <= l.length) (hB : ∀ ws : Sl, Blk w b 75 [.string (T l), .int .i64 (i : Int), ws.v, rs.v] -> Blk w' b 75 [.string (T l), .int .i64 (j : Int), ws.v, rs.v]) : Cut w' b l j rs acc := by
 obtain ⟨ws, h1, h2⟩ := h.blk
 exact ⟨⟨ws, hB ws h1, SliceF.only rTx_ok (by decide) h2 hO (by intro k hk _; simp only [List.mem_singleton]; omega)⟩, h.own.keep fun k hk hlt => hO.block k hlt (by simp only [List.mem_singleton]; omega), h.er.keep fun hlt => hO.block _ hlt (by simp only [List.mem_singleton]; have := h.gb; omega), h.gb, hj, h.ll⟩
theorem add_c {w : World} {b : Nat} {l : List UInt8} {i : Nat} {rs : Sl} {acc : List Tk} (h : Cut w b l i rs acc) (k : Int) (t : List UInt8) (nn a0 : Int) (n : Nat) (hn : i + n <= l.length) (ha : acc.length <= 16384) :
  Calls Tryz.prog 32 #[.pointer (some ⟨b, 0, none⟩), .agg #[.int .i64 k, .string (T t), .int .i64 nn, .int .i64 a0], .int .i64 (n : Int)] w fun e w' => e = .returned (.tuple #[]) /\ OnlyP (fun k => b <= k) w w' /\ ∃ rs', Cut w' b l (i + n) rs' (acc ++ [⟨k, t, nn, i⟩]) := by
 refine ret (v45w ⟨b, 0, none⟩ k (T t) nn a0 n (fun v w' => v = .tuple #[] /\ OnlyP (fun k => b <= k) w w' /\ ∃ rs', Cut w' b l (i + n) rs' (acc ++ [⟨k, t, nn, i⟩])) w ?_)
 unfold v45v
 intro k0 w0 hk0 hk0' hO0
 have hbl := h.lt
 have hll := h.ll
 have h0 := h.only hO0
 obtain ⟨ws, hb0, hw0⟩ := h0.blk
 refine ⟨i, Blk.at1 hb0 1 rfl, fun w1 hO1 => ?_⟩
 have zb0 := hb0.lt
 have hb1 : Blk w1 b 75 _ := (hO1.block b zb0 (by simp only [List.mem_singleton]; omega)).trans hb0
 have ho1 : OwnK (b + 1) w1 rs acc := h0.own.keep fun q hq hlt => by
  refine hO1.block q hlt ?_
  simp only [List.mem_singleton]
  rintro rfl
  have := (h.own.blk hq.2).2
  dsimp only at this
  omega
 have z1 := hO1.size
 obtain ⟨y, w2, c1, c2, s', w3, c3, c4, c5⟩ := push_k ⟨k, t, nn, i⟩ ho1 (by omega) (Nat.le_trans (Nat.mul_le_mul_right 40 (show acc.length + 1 <= 16385 by omega)) (by decide))
 have z2 := c2.size
 have z3 := c5.size
 have hk0r : ∀ q, rs.a = some ⟨q, 0, none⟩ -> q ≠ k0 := fun q hq => by
  have := (h.own.blk hq).2
  dsimp only at this
  omega
 refine ⟨fun q => q = b, rfl, rs, Blk.at1 hb1 3 rfl, y, w2, c1, c2.same (by simp; omega), Keeps.only c2, s', w3, c3, ?_, ?_, ?_⟩
 · exact c5.same (by intro x hx; simp only [List.mem_singleton] at hx; subst hx; exact ⟨by omega, fun e => hk0r _ e.2 rfl⟩)
 · intro q hq hlt
   exact c5.block q hlt (by omega)
 have hb3 : Blk w3 b 75 [.string (T l), .int .i64 (i : Int), ws.v, rs.v] := (c5.block b (by omega) (by omega)).trans ((c2.block b (by omega) (by simp)).trans hb1)
 refine ⟨b, 3, _, 75, by rw [addr_lit], hb3, by simp, by omega, fun w4 hO4 hb4 => ?_⟩
 have hb4 : Blk w4 b 75 [.string (T l), .int .i64 (i : Int), ws.v, s'.v] := hb4
 refine ⟨i, Blk.at1 hb4 1 rfl, b, 1, _, 75, by rw [addr_zero, addr_lit], hb4, by simp, by omega, fun w5 hO5 hb5 => ⟨rfl, ?_, s', ?_⟩⟩
 · have e1 : OnlyP (fun k => b <= k) w w1 := hO0.p0.trans (hO1.p (F := fun q => q = k0) fun b hb => .inl (by simpa using hb)) fun q hq => by omega
   have e2 : OnlyP (fun k => b <= k) w w3 := (e1.tr0 c2).trans c5 fun q hq => .inl (by omega)
   have e3 : OnlyP (fun k => b <= k) w w4 := e2.trans (hO4.p (F := fun q => q = b) fun b hb => .inl (by simpa using hb)) fun q hq => .inl (by omega)
   exact e3.trans (hO5.p (F := fun q => q = b) fun b hb => .inl (by simpa using hb)) fun q hq => .inl (by omega)
 · have z4 := hO4.size
   have hb5 : Blk w5 b 75 [.string (T l), .int .i64 (IntKind.i64.wrap ((i : Int) + n)), ws.v, s'.v] := hb5
   rw [wr' (by omega) (by omega)] at hb5
   have up : OnlyP (fun k => b <= k) w w5 := by
    have e1 : OnlyP (fun k => b <= k) w w1 := hO0.p0.trans (hO1.p (F := fun q => q = k0) fun b hb => .inl (by simpa using hb)) fun q hq => by omega
    have e2 : OnlyP (fun k => b <= k) w w3 := (e1.tr0 c2).trans c5 fun q hq => .inl (by omega)
    have e3 : OnlyP (fun k => b <= k) w w4 := e2.trans (hO4.p (F := fun q => q = b) fun b hb => .inl (by simpa using hb)) fun q hq => .inl (by omega)
    exact e3.trans (hO5.p (F := fun q => q = b) fun b hb => .inl (by simpa using hb)) fun q hq => .inl (by omega)
   have hgb := h.gb
   obtain ⟨ws', hb', hw'⟩ := h.blk
   have hwe : ws' = ws := by
    have : Blk w0 b 75 [.string (T l), .int .i64 (i : Int), ws'.v, rs.v] := (hO0.block b hbl (by simp)).trans hb'
    unfold Blk at this hb0
    rw [this] at hb0
    simp [Sl.v] at hb0
    cases ws; cases ws'; simp_all
   subst hwe
   refine ⟨⟨ws', hb5, SliceF.onlyP rTx_ok (by decide) hw' up fun q hq _ hd => by omega⟩, ?_, h.er.keep fun hlt => up.block _ hlt (by omega), hgb, hn, hll⟩
   have e4 : OwnK (b + 1) w4 s' _ := c4.keep fun q hq hlt => hO4.block q hlt (by simp only [List.mem_singleton]; omega)
   exact e4.keep fun q hq hlt => hO5.block q hlt (by simp only [List.mem_singleton]; omega)
abbrev Tq := Int × List UInt8 × Int × Nat
def wordR (m : List UInt8) : Except Int Tq :=
 if 24 < (m.takeWhile wordB).length then .error 2 else .ok (if wordsL.contains (m.takeWhile wordB) then 2 else 1, m.takeWhile wordB, 0, (m.takeWhile wordB).length)
def numR (m : List UInt8) : Except Int Tq :=
 if (parseM m).2.2 ≠ 0 then .error (parseM m).2.2 else if (parseM m).2.1 < (m.takeWhile wordB).length then .error 4 else .ok (3, [], (parseM m).1, (parseM m).2.1)
def shortL : List UInt8 := [123, 125, 40, 41, 91, 93, 59, 44, 61, 43, 45, 42, 47, 37, 60, 62, 33]
def sign2 (m : List UInt8) : Bool := match m with
 | c :: d :: _ => (d == 61 && [60, 62, 61, 33].contains c) || (d == c && [38, 124].contains c) || (c == 45 && d == 62)
 | _ => false
def signN (m : List UInt8) : Nat := if sign2 m then 2 else match m with
 | c :: _ => if shortL.contains c then 1 else 0
 | [] => 0
def signR (m : List UInt8) : Except Int Tq := if signN m = 0 then .error 4 else .ok (4, m.take (signN m), 0, signN m)
def tokR (m : List UInt8) : Except Int Tq := match m with
 | [] => .error 4
 | c :: _ => if letterB c then wordR m else if digitB c then numR m else signR m
def Did (w' : World) (b : Nat) (l : List UInt8) (i : Nat) (acc : List Tk) (r : Except Int Tq) (v : Value) : Prop := match r with
 | .error e => v = .int .i64 e /\ ∃ rs, Cut w' b l i rs acc
 | .ok q => v = .int .i64 0 /\ ∃ rs, Cut w' b l (i + q.2.2.2) rs (acc ++ [⟨q.1, q.2.1, q.2.2.1, i⟩])
theorem while_len {p : UInt8 -> Bool} {l : List UInt8} : (l.takeWhile p).length <= l.length := by
 rw [while_take, List.length_take]; exact Nat.min_le_right _ _
theorem word_c {w : World} {b : Nat} {l : List UInt8} {i : Nat} {rs : Sl} {acc : List Tk} (h : Cut w b l i rs acc) (ha : acc.length <= 16384) :
  Calls Tryz.prog 50 #[.pointer (some ⟨b, 0, none⟩)] w fun e w' => ∃ v, e = .returned v /\ OnlyP (fun k => b <= k) w w' /\ Did w' b l i acc (wordR (l.drop i)) v := by
 refine v49w ⟨b, 0, none⟩ (fun v w' => OnlyP (fun k => b <= k) w w' /\ Did w' b l i acc (wordR (l.drop i)) v) w ?_
 unfold v49v
 obtain ⟨ws, hb, hw⟩ := h.blk
 have hll := h.ll
 refine (row_c hb h.il (by omega)).mono ?_
 rintro _ w0 ⟨rfl, hO0⟩
 have hwl : ((l.drop i).takeWhile wordB).length <= l.length - i := by
  have := while_len (p := wordB) (l := l.drop i)
  rwa [List.length_drop] at this
 have hil := h.il
 refine ⟨_, rfl, fun hc => ⟨hO0.p0, ?_⟩, fun hc => ?_⟩
 · rw [T_size] at hc
   rw [wordR, if_pos (by have := of_decide_eq_true hc; omega)]
   exact ⟨rfl, rs, h.only hO0⟩
 rw [T_size] at hc
 have hc : ¬ 24 < ((l.drop i).takeWhile wordB).length := by have := of_decide_eq_false hc; omega
 rw [wordR, if_neg hc]
 generalize hm : (l.drop i).takeWhile wordB = m at *
 have h0 := h.only hO0
 obtain ⟨ws', hb', hw'⟩ := h0.blk
 refine ⟨fun k w' => k = (if wordsL.contains m then 2 else 1) /\ Only [] w w', ?_, ws', Blk.at1 hb' 2 rfl, (containsS_c hw' m).mono ?_⟩
 · rintro _ w1 ⟨rfl, hO1⟩
   refine (ret (v58w (T m) (fun v w' => v = .string (T m) /\ Only [] w1 w') w1 ?_)).mono ?_
   · unfold v58v
     refine (Tryz.stringslite_Clone (T m) w1 (by rw [T_size]; omega)).mono ?_
     rintro _ w2 ⟨rfl, hw⟩
     exact ⟨_, rfl, rfl, Only.of_below hw⟩
   rintro _ w2 ⟨rfl, hO2⟩
   rw [T_size]
   refine ⟨_, rfl, (add_c (h.only (hO1.tr0 hO2)) _ m 0 0 m.length (by omega) ha).mono ?_⟩
   rintro _ w3 ⟨rfl, hO3, rs', hC⟩
   exact ⟨rfl, (hO1.tr0 hO2).trP hO3, rfl, rs', hC⟩
 · rintro _ w4 ⟨rfl, hO4⟩
   refine ⟨_, rfl, fun hb => ⟨by rw [if_pos hb], hO0.tr0 hO4⟩, fun hb => ⟨by rw [hb]; rfl, hO0.tr0 hO4⟩⟩
theorem number_c {w : World} {b : Nat} {l : List UInt8} {i : Nat} {rs : Sl} {acc : List Tk} (h : Cut w b l i rs acc) (ha : acc.length <= 16384) :
  Calls Tryz.prog 52 #[.pointer (some ⟨b, 0, none⟩)] w fun e w' => ∃ v, e = .returned v /\ OnlyP (fun k => b <= k) w w' /\ Did w' b l i acc (numR (l.drop i)) v := by
 refine v46w ⟨b, 0, none⟩ (fun v w' => OnlyP (fun k => b <= k) w w' /\ Did w' b l i acc (numR (l.drop i)) v) w ?_
 unfold v46v
 obtain ⟨ws, hb, hw⟩ := h.blk
 have hll := h.ll
 have hil := h.il
 refine (rest_c hb h.il).mono ?_
 rintro _ w0 ⟨rfl, hO0⟩
 have hdl : (l.drop i).length = l.length - i := List.length_drop
 refine ⟨_, rfl, (cparse_c (h.er.only hO0) (by omega)).mono ?_⟩
 rintro _ w1 ⟨rfl, hO1⟩
 have hO01 := hO0.tr0 hO1
 refine ⟨_, _, _, rfl, fun he => ⟨hO01.p0, ?_⟩, fun he => ?_⟩
 · rw [numR, if_pos (by simpa using he)]
   exact ⟨rfl, rs, h.only hO01⟩
 have he : ¬ (parseM (l.drop i)).2.2 ≠ 0 := by simpa using he
 have hk : (parseM (l.drop i)).2.1 <= (l.drop i).length := by
  have := while_len (p := digitB) (l := l.drop i)
  unfold parseM
  split
  · exact Nat.zero_le _
  · split
    · exact Nat.zero_le _
    · split
      · exact this
      · exact Nat.zero_le _
 obtain ⟨ws', hb', hw'⟩ := (h.only hO01).blk
 refine (row_c hb' h.il (by omega)).mono ?_
 rintro _ w2 ⟨rfl, hO2⟩
 have hO02 := hO01.tr0 hO2
 refine ⟨_, rfl, ?_⟩
 rw [T_size]
 refine ⟨fun hc => ⟨hO02.p0, ?_⟩, fun hc => ?_⟩
 · rw [numR, if_neg he, if_pos (by have := of_decide_eq_true hc; omega)]
   exact ⟨rfl, rs, h.only hO02⟩
 · rw [numR, if_neg he, if_neg (by have := of_decide_eq_false hc; omega)]
   refine (add_c (h.only hO02) 3 [] _ 0 (parseM (l.drop i)).2.1 (by omega) ha).mono ?_
   rintro _ w3 ⟨rfl, hO3, rs', hC⟩
   exact ⟨rfl, hO02.trP hO3, rfl, rs', hC⟩
theorem freeze_cell (w : World) (p : Addr) (n : Nat) (a : Addr) : (w.freeze p n).cell? a = w.cell? a := by
 unfold World.freeze
 split
 · rfl
 · unfold World.cell?
   simp only [Array.getElem?_modify]
   by_cases hpa : p.block = a.block
   · rw [if_pos hpa]
     cases h : w.heap[a.block]? with
     | none => rfl
     | some o =>
      cases o with
      | cells c e f => obtain ⟨lo, hi⟩ := f; rfl
      | _ => rfl
   · rw [if_neg hpa]
theorem freeze_only (w : World) (p : Addr) (n : Nat) : OnlyP (fun k => k = p.block) w (w.freeze p n) := by
 unfold World.freeze
 split
 · exact OnlyP.refl _ _
 · exact ⟨rfl, rfl, rfl, by simp, fun k hk hn => by
    simp only [Array.getElem?_modify]
    rw [if_neg fun e => hn e.symm]⟩
theorem conv_b {w : World} {F : Nat -> Prop} {s : Sl} {g B : Nat} {l : List UInt8} (ha : s.a = some ⟨g, 0, none⟩) (h : Own rByte 1 5 B w F s l) (hlt : g < w.heap.size) :
  ∃ w', (convert 114 114 (Sl.v s)).run Tryz.prog w = .ok (Sl.v s) w' /\ SliceF rByte 1 w' (fun _ => True) s l /\ OnlyP (fun k => k = g) w w' := by
 have hs := flatB h
 obtain ⟨g', css, tail, a1, a2, a4, _⟩ := h.resolve_left (fun e => by rw [e.1] at ha; cases ha)
 rw [ha] at a1
 injection a1 with a1
 injection a1 with a1
 subst a1
 have hsh : w.shape? g = some (5, (css.flatten ++ tail).toArray.size) := by
  unfold World.shape?
  unfold Blk at a4
  rw [a4]
 have hu : Tryz.prog.underlying 114 = some (.slice 5) := by kernel_rfl
 have hu2 : Tryz.prog.underlying 5 = some (.int .u8) := by kernel_rfl
 refine ⟨w.freeze ⟨g, (css.flatten ++ tail).toArray.size, none⟩ 1, ?_, ⟨hs.len, hs.cap, hs.nil0, hs.big, fun j x hj => ?_⟩, freeze_only w ⟨g, (css.flatten ++ tail).toArray.size, none⟩ 1⟩
 · unfold Sl.v
   rw [ha]
   simp [convert, run_underlying hu, run_underlying hu2, markStringish, hsh, Result.andThen]
 · obtain ⟨base, cs, g1, g2, g3, g4, g5⟩ := hs.at_ j x hj
   exact ⟨base, cs, g1, trivial, g3, fun q v hq => by rw [freeze_cell]; exact g4 q v hq, g5⟩
theorem u8i {c d : UInt8} : ((c.toNat : Int) == (d.toNat : Int)) = (c == d) := by
 rw [Bool.eq_iff_iff]
 simp only [beq_iff_eq]
 constructor
 · intro h; exact UInt8.toNat_inj.1 (by omega)
 · rintro rfl; rfl
theorem sign2_len {m : List UInt8} (h : sign2 m = true) : 2 <= m.length := by
 match m, h with
 | _ :: _ :: _, _ => simp
theorem signN_le {m : List UInt8} : signN m <= m.length := by
 unfold signN
 split
 · exact sign2_len (by assumption)
 · split
   · split
     · simp
     · exact Nat.zero_le _
   · exact Nat.zero_le _
theorem sign_c {w : World} {b : Nat} {l : List UInt8} {i : Nat} {rs : Sl} {acc : List Tk} (h : Cut w b l i rs acc) (ha : acc.length <= 16384) (hne : i < l.length) :
    Calls Tryz.prog 53 #[.pointer (some ⟨b, 0, none⟩)] w fun e w' => ∃ v, e = .returned v /\ OnlyP (fun k => b <= k) w w' /\ Did w' b l i acc (signR (l.drop i)) v := by
  refine v47w ⟨b, 0, none⟩ (fun v w' => OnlyP (fun k => b <= k) w w' /\ Did w' b l i acc (signR (l.drop i)) v) w ?_
  unfold v47v
  obtain ⟨ws, hb, hw⟩ := h.blk
  have hll := h.ll
  have hil := h.il
  refine (rest_c hb h.il).mono ?_
  rintro _ w0 ⟨rfl, hO0⟩
  have hdl : (l.drop i).length = l.length - i := List.length_drop
  generalize hm : l.drop i = m at *
  obtain ⟨c, r, rfl⟩ : ∃ c r, m = c :: r := by
    cases m with
    | nil => simp at hdl; omega
    | cons c r => exact ⟨c, r, rfl⟩
  have g0 : (0 : Int) <= 0 /\ (T (c :: r))[0]? = some c := ⟨Int.le_refl _, by rw [T_get]; rfl⟩
  refine ⟨T (c :: r), rfl, fun i0 w' => i0 = (if shortL.contains c then 1 else 0 : Int) /\ Only [] w w', ?_, c, g0, ?_⟩
  · rintro _ w1 ⟨rfl, hO1⟩
    refine ⟨fun i1 w' => i1 = (signN (c :: r) : Int) /\ Only [] w w', ?_, fun b w' => b = sign2 (c :: r) /\ Only [] w w', ?_, ?_, ?_⟩
    · rintro _ w2 ⟨rfl, hO2⟩
      refine ⟨fun hz => ⟨hO2.p0, ?_⟩, fun hz => ⟨signN (c :: r), ⟨rfl, by rw [T_size]; exact signN_le⟩, ?_⟩⟩
      · rw [signR, if_pos (by have : (signN (c :: r) : Int) = 0 := by simpa using hz
                              omega)]
        exact ⟨rfl, rs, h.only hO2⟩
      have hz : ¬ signN (c :: r) = 0 := by
        intro e
        rw [e] at hz
        simp at hz
      rw [signR, if_neg hz, T_ext, List.drop_zero, Nat.sub_zero]
      have hn := signN_le (m := c :: r)
      refine (ret (v58w (T _) (fun v w' => v = .string (T ((c :: r).take (signN (c :: r)))) /\ Only [] w2 w') w2 ?_)).mono ?_
      · unfold v58v
        refine (Tryz.stringslite_Clone (T _) w2 (by rw [T_size, List.length_take]; omega)).mono ?_
        rintro _ w3 ⟨rfl, hw⟩
        exact ⟨_, rfl, rfl, Only.of_below hw⟩
      rintro _ w3 ⟨rfl, hO3⟩
      refine ⟨_, rfl, (add_c (h.only (hO2.tr0 hO3)) 4 _ 0 0 (signN (c :: r)) (by omega) ha).mono ?_⟩
      rintro _ w4 ⟨rfl, hO4, rs', hC⟩
      exact ⟨rfl, (hO2.tr0 hO3).trP hO4, rfl, rs', hC⟩
    · rintro _ w5 ⟨rfl, hO5⟩
      refine ⟨fun hs => ⟨by rw [signN, if_pos hs]; rfl, hO5⟩, fun hs => ⟨?_, hO5⟩⟩
      have e : signN (c :: r) = if shortL.contains c then 1 else 0 := by rw [signN, if_neg (by rw [hs]; decide)]
      rw [e]
      split <;> rfl
    · intro hc
      rw [T_size] at hc
      obtain ⟨d, r, rfl⟩ : ∃ d r', r = d :: r' := by
        cases r with
        | nil => simp at hc
        | cons d r => exact ⟨d, r, rfl⟩
      have g1 : (0 : Int) <= 1 /\ (T (c :: d :: r))[1]? = some d := ⟨by decide, by rw [T_get]; rfl⟩
      have ex : (T (c :: d :: r)).extract 0 2 = T [c, d] := by rw [T_ext]; rfl
      have sz : 2 <= (T (c :: d :: r)).size := by rw [T_size]; simp
      have lit : (ByteArray.mk #[45, 62]) = T [45, 62] := rfl
      have eqx : ((T [c, d]).toList == (T [45, 62]).toList) = (c == 45 && d == 62) := by
        rw [T_eq, Bool.eq_iff_iff]
        simp
      have e61 : ((d.toNat : Int) == 61) = (d == 61) := u8i (d := 61)
      have hs2 : sign2 (c :: d :: r) = ((d == 61 && [60, 62, 61, 33].contains c) || (d == c && [38, 124].contains c) || (c == 45 && d == 62)) := rfl
      rw [hs2]
      generalize hp1 : ([60, 62, 61, 33] : List UInt8).contains c = p1
      generalize hp2 : ([38, 124] : List UInt8).contains c = p2
      have lst : ((((T (c :: d :: r)).extract 0 2).toList) == ((ByteArray.mk #[45, 62]).toList)) = (c == 45 && d == 62) := by rw [ex, lit, eqx]
      refine ⟨d, g1, fun h61 => ⟨c, g0, fun w6 hO6 => ?_⟩, fun h61 => ⟨d, g1, c, g0, fun hdc => ⟨c, g0, fun w11 hO11 => ?_⟩, fun hdc => ⟨sz, fun w14 hO14 => ⟨?_, hO1.tr0 hO14⟩⟩⟩⟩
      · rw [e61] at h61
        obtain ⟨s, w7, k1, k2, k3, _⟩ := buildB w6 [60, 62, 61, 33] (n := 4) (parts := #[(0, .int .u8 60), (1, .int .u8 62), (2, .int .u8 61), (3, .int .u8 33)]) rfl rfl (by decide) (by decide)
        refine ⟨s, w7, k1, (one_c (flatB k2) c).mono ?_⟩
        rintro _ w8 ⟨rfl, hO8⟩
        have hO18 := hO1.tr0 (hO6.tr0 (k3.tr0 hO8))
        rw [hp1]
        refine ⟨_, rfl, fun hb => ⟨by rw [h61, hb]; rfl, hO18⟩, fun hb => ⟨d, g1, c, g0, fun hdc => ⟨c, g0, ?_⟩, fun hdc => ⟨sz, ?_, hO18⟩⟩⟩
        · rw [u8i] at hdc
          obtain ⟨s, w9, k1, k2, k3, _⟩ := buildB w8 [38, 124] (n := 2) (parts := #[(0, .int .u8 38), (1, .int .u8 124)]) rfl rfl (by decide) (by decide)
          refine ⟨s, w9, k1, (one_c (flatB k2) c).mono ?_⟩
          rintro _ w10 ⟨rfl, hO10⟩
          have hO := hO18.tr0 (k3.tr0 hO10)
          rw [hp2]
          exact ⟨_, rfl, fun hb2 => ⟨by rw [h61, hb, hdc, hb2]; rfl, hO⟩, fun hb2 => ⟨sz, by rw [lst, h61, hb, hdc, hb2]; rfl, hO⟩⟩
        · rw [u8i] at hdc
          rw [lst, h61, hb, hdc]; rfl
      · rw [e61] at h61
        rw [u8i] at hdc
        obtain ⟨s, w12, k1, k2, k3, _⟩ := buildB w11 [38, 124] (n := 2) (parts := #[(0, .int .u8 38), (1, .int .u8 124)]) rfl rfl (by decide) (by decide)
        refine ⟨s, w12, k1, (one_c (flatB k2) c).mono ?_⟩
        rintro _ w13 ⟨rfl, hO13⟩
        have hO := hO1.tr0 (hO11.tr0 (k3.tr0 hO13))
        rw [hp2]
        exact ⟨_, rfl, fun hb2 => ⟨by rw [h61, hdc, hb2]; rfl, hO⟩, fun hb2 => ⟨sz, by rw [lst, h61, hdc, hb2]; rfl, hO⟩⟩
      · rw [e61] at h61
        rw [u8i] at hdc
        rw [lst, h61, hdc]; rfl
    · intro hc w15 hO15
      rw [T_size] at hc
      have hr : r = [] := by
        cases r with
        | nil => rfl
        | cons d r => exact absurd (of_decide_eq_false hc) (by simp only [List.length_cons]; omega)
      subst hr
      exact ⟨rfl, hO1.tr0 hO15⟩
  · obtain ⟨s, w16, k1, k2, k3, k4⟩ := buildB w0 shortL (n := 17) (parts := #[(0, .int .u8 123), (1, .int .u8 125), (2, .int .u8 40), (3, .int .u8 41), (4, .int .u8 91), (5, .int .u8 93), (6, .int .u8 59), (7, .int .u8 44), (8, .int .u8 61), (9, .int .u8 43), (10, .int .u8 45), (11, .int .u8 42), (12, .int .u8 47), (13, .int .u8 37), (14, .int .u8 60), (15, .int .u8 62), (16, .int .u8 33)]) rfl rfl (by decide) (by decide)
    obtain ⟨w17, c1, c2, c3⟩ := conv_b k4 k2 (k2.blk k4).2
    have hO17 : Only [] w0 w17 := ((k3.p0 (F := fun k => w0.heap.size <= k)).trans c3 fun k hk => .inl (by omega)).only fun k hk => hk
    refine ⟨s, w16, k1, s, w17, c1, (one_c c2 c).mono ?_⟩
    rintro _ w18 ⟨rfl, hO18⟩
    have hO := hO0.tr0 (hO17.tr0 hO18)
    exact ⟨_, rfl, fun hb => ⟨by rw [if_pos hb], hO⟩, fun hb => ⟨by rw [hb]; rfl, hO⟩⟩
theorem Did.int {w' : World} {b : Nat} {l : List UInt8} {i : Nat} {acc : List Tk} {r : Except Int Tq} {v : Value} (h : Did w' b l i acc r v) : ∃ k : Int, v = .int .i64 k := by
 unfold Did at h
 split at h
 · exact ⟨_, h.1⟩
 · exact ⟨_, h.1⟩
theorem token_c {w : World} {b : Nat} {l : List UInt8} {i : Nat} {rs : Sl} {acc : List Tk} (h : Cut w b l i rs acc) (ha : acc.length <= 16384) (hne : i < l.length) :
  Calls Tryz.prog 31 #[.pointer (some ⟨b, 0, none⟩)] w fun e w' => ∃ v, e = .returned v /\ OnlyP (fun k => b <= k) w w' /\ Did w' b l i acc (tokR (l.drop i)) v := by
 refine v48w ⟨b, 0, none⟩ (fun v w' => OnlyP (fun k => b <= k) w w' /\ Did w' b l i acc (tokR (l.drop i)) v) w ?_
 unfold v48v
 obtain ⟨ws, hb, hw⟩ := h.blk
 have hx : l[i]? = some l[i] := List.getElem?_eq_getElem hne
 generalize l[i] = x at hx
 have ht : tokR (l.drop i) = if letterB x then wordR (l.drop i) else if digitB x then numR (l.drop i) else signR (l.drop i) := by
  rw [drop_cons hx]; rfl
 rw [ht]
 refine ⟨T l, Blk.at1 hb 0 rfl, i, Blk.at1 hb 1 rfl, x, ⟨Int.natCast_nonneg i, by rw [T_get, Int.toNat_natCast, hx]⟩, fun w0 hO0 => (letter_c w0 x).mono ?_⟩
 rintro _ w1 ⟨rfl, hO1⟩
 have hO01 := hO0.tr0 hO1
 refine ⟨_, rfl, fun hl => ?_, fun hl => (digit_c w1 x).mono ?_⟩
 · rw [if_pos hl]
   refine (word_c (h.only hO01) ha).mono ?_
   rintro _ w2 ⟨v, rfl, hO2, hd⟩
   obtain ⟨k, rfl⟩ := hd.int
   exact ⟨k, rfl, hO01.trP hO2, hd⟩
 rintro _ w3 ⟨rfl, hO3⟩
 have hO03 := hO01.tr0 hO3
 rw [if_neg (by rw [hl]; decide)]
 refine ⟨_, rfl, fun hd => ?_, fun hd => ?_⟩
 · rw [if_pos hd]
   refine (number_c (h.only hO03) ha).mono ?_
   rintro _ w2 ⟨v, rfl, hO2, hd⟩
   obtain ⟨k, rfl⟩ := hd.int
   exact ⟨k, rfl, hO03.trP hO2, hd⟩
 · rw [if_neg (by rw [hd]; decide)]
   refine (sign_c (h.only hO03) ha hne).mono ?_
   rintro _ w2 ⟨v, rfl, hO2, hd⟩
   obtain ⟨k, rfl⟩ := hd.int
   exact ⟨k, rfl, hO03.trP hO2, hd⟩
theorem tok_len {m : List UInt8} {q : Tq} (h : tokR m = .ok q) : 1 <= q.2.2.2 := by
 cases m with
 | nil => cases h
 | cons c r =>
  simp only [tokR] at h
  split at h
  · rename_i hc
    unfold wordR at h
    split at h
    · cases h
    · injection h with h
      subst h
      have : wordB c = true := by unfold wordB; rw [hc]; rfl
      dsimp only
      rw [List.takeWhile_cons, if_pos this, List.length_cons]
      omega
  · split at h
    · rename_i hc
      unfold numR at h
      split at h
      · cases h
      · split at h
        · cases h
        · rename_i h1 h2
          injection h with h
          subst h
          dsimp only
          rw [List.takeWhile_cons, if_pos (by unfold wordB; rw [hc, Bool.or_true]), List.length_cons] at h2
          omega
    · unfold signR at h
      split at h
      · cases h
      · injection h with h
        subst h
        dsimp only
        omega
theorem tok_err {m : List UInt8} {e : Int} (h : tokR m = .error e) : e ≠ 0 := by
 cases m with
 | nil => injection h with h; omega
 | cons c r =>
  simp only [tokR] at h
  split at h
  · unfold wordR at h
    split at h
    · injection h with h; omega
    · cases h
  · split at h
    · unfold numR at h
      split at h
      · injection h with h; omega
      · split at h
        · injection h with h; omega
        · cases h
    · unfold signR at h
      split at h
      · injection h with h; omega
      · cases h
def toksF (l : List UInt8) : Nat -> Nat -> Except (Int × Nat) (List Tk)
 | 0, _ => .ok []
 | f + 1, i =>
  if l.length <= i + skN false (l.drop i) then .ok [⟨5, [], 0, (i + skN false (l.drop i) : Nat)⟩]
  else match tokR (l.drop (i + skN false (l.drop i))) with
   | .error e => .error (e, i + skN false (l.drop i))
   | .ok q => match toksF l f (i + skN false (l.drop i) + q.2.2.2) with
    | .error x => .error x
    | .ok r => .ok (⟨q.1, q.2.1, q.2.2.1, (i + skN false (l.drop i) : Nat)⟩ :: r)
theorem parse_le {l : List UInt8} : (parseM l).2.1 <= l.length := by
 have := while_len (p := digitB) (l := l)
 unfold parseM
 split
 · exact Nat.zero_le _
 · split
   · exact Nat.zero_le _
   · split
     · exact this
     · exact Nat.zero_le _
theorem tok_le {m : List UInt8} {q : Tq} (h : tokR m = .ok q) : q.2.2.2 <= m.length := by
 cases m with
 | nil => cases h
 | cons c r =>
  simp only [tokR] at h
  split at h
  · unfold wordR at h
    split at h
    · cases h
    · injection h with h
      subst h
      exact while_len
  · split at h
    · unfold numR at h
      split at h
      · cases h
      · split at h
        · cases h
        · injection h with h
          subst h
          exact parse_le
    · unfold signR at h
      split at h
      · cases h
      · injection h with h
        subst h
        exact signN_le
theorem sk_in {l : List UInt8} {i : Nat} (hi : i <= l.length) : i + skN false (l.drop i) <= l.length := by
 have := skN_le (b := false) (l := l.drop i)
 rw [List.length_drop] at this
 omega
theorem toksF_eq (l : List UInt8) : ∀ (f g i : Nat), i <= l.length -> l.length < i + f -> l.length < i + g -> toksF l f i = toksF l g i
 | 0, _, i, hi, h, _ => by omega
 | _, 0, i, hi, _, h => by omega
 | f + 1, g + 1, i, hi, h1, h2 => by
  rw [toksF, toksF]
  split
  · rfl
  · split
    · rfl
    · rename_i q hq
      have h3 := tok_len hq
      have h4 := tok_le hq
      rw [List.length_drop] at h4
      rw [toksF_eq l f g _ (by omega) (by omega) (by omega)]
def toks (l : List UInt8) (i : Nat) : Except (Int × Nat) (List Tk) := toksF l (l.length + 1) i
theorem toks_step {l : List UInt8} {i : Nat} (hi : i <= l.length) : toks l i = if l.length <= i + skN false (l.drop i) then .ok [⟨5, [], 0, (i + skN false (l.drop i) : Nat)⟩]
  else match tokR (l.drop (i + skN false (l.drop i))) with
   | .error e => .error (e, i + skN false (l.drop i))
   | .ok q => match toks l (i + skN false (l.drop i) + q.2.2.2) with
    | .error x => .error x
    | .ok r => .ok (⟨q.1, q.2.1, q.2.2.1, (i + skN false (l.drop i) : Nat)⟩ :: r) := by
 unfold toks
 rw [toksF]
 split
 · rfl
 · split
   · rfl
   · rename_i q hq
     have h3 := tok_len hq
     have h4 := tok_le hq
     rw [List.length_drop] at h4
     rw [toksF_eq l l.length (l.length + 1) _ (by omega) (by omega) (by omega)]
def tokensM (l : List UInt8) : List Tk × Int × Int := if 16384 < l.length then ([], 2, -1) else match toks l 0 with
 | .error x => ([], x.1, (x.2 : Nat))
 | .ok r => (r, 0, 0)
def pre (acc : List Tk) : Except (Int × Nat) (List Tk) -> Except (Int × Nat) (List Tk)
 | .error x => .error x
 | .ok r => .ok (acc ++ r)
theorem sk_idem (b : Bool) : ∀ (l : List UInt8), skN false (l.drop (skN b l)) = 0
 | [] => by simp [skN]
 | c :: r => by
  cases b with
  | true =>
   rw [skN, Nat.add_comm, List.drop_succ_cons]
   exact sk_idem _ r
  | false =>
   rw [skN]
   split
   · rw [Nat.add_comm, List.drop_succ_cons]
     exact sk_idem _ r
   · split
     · rw [Nat.add_comm, List.drop_succ_cons]
       exact sk_idem _ r
     · rename_i h1 h2
       rw [List.drop_zero, skN, if_neg h1, if_neg h2]
theorem toks_skip {l : List UInt8} {i : Nat} (hi : i <= l.length) : toks l i = toks l (i + skN false (l.drop i)) := by
 have h1 := sk_in hi
 have h2 : skN false (l.drop (i + skN false (l.drop i))) = 0 := by
  rw [<- List.drop_drop]
  exact sk_idem false (l.drop i)
 rw [toks_step hi, toks_step h1, h2, Nat.add_zero]
theorem pre_pre {a b : List Tk} {x : Except (Int × Nat) (List Tk)} : pre a (pre b x) = pre (a ++ b) x := by
 cases x with
 | error _ => rfl
 | ok r => simp [pre]
theorem tokens_c {w : World} (l : List UInt8) (hE : Er w) :
  Calls Tryz.prog 16 #[.string (T l)] w fun e w' => ∃ rs : Sl, e = .returned (.tuple #[rs.v, .agg #[.int .i64 (tokensM l).2.1, .int .i64 (tokensM l).2.2]]) /\ OwnK w.heap.size w' rs (tokensM l).1 /\ Only [] w w' := by
 refine (v39w (T l) (fun v w' => ∃ rs : Sl, v = (.tuple #[rs.v, .agg #[.int .i64 (tokensM l).2.1, .int .i64 (tokensM l).2.2]]) /\ OwnK w.heap.size w' rs (tokensM l).1 /\ Only [] w w') w ?_).mono (by
  rintro e w' ⟨v, rfl, rs, rfl, h⟩; exact ⟨rs, rfl, h⟩)
 unfold v39v
 rw [T_size]
 refine ⟨fun hc k0 w0 _ _ hO => ⟨Sl.nil, ?_, ?_, hO⟩, fun hc k1 w1 hk1 hk1' hO1 => (words_c w1).mono ?_⟩
 · rw [tokensM, if_pos (by have := of_decide_eq_true hc; omega)]
 · rw [tokensM, if_pos (by have := of_decide_eq_true hc; omega)]
   exact Own.nil _ _ _ _ _ _
 have hll : l.length <= 16384 := by have := of_decide_eq_false hc; omega
 have htm : tokensM l = match toks l 0 with
  | .error x => ([], x.1, (x.2 : Nat))
  | .ok r => (r, 0, 0) := by rw [tokensM, if_neg (by omega)]
 rintro _ w2 ⟨ws, rfl, hws, hO2⟩
 refine ⟨ws, rfl, hO2.same (by simp; omega), fun b w3 hb hb' hO3 hblk => ?_⟩
 have hO13 := hO1.tr0 (hO2.tr0 hO3)
 have z1 := hO1.size
 have z2 := hO2.size
 have z3 := hO3.size
 have hC0 : Cut w3 b l 0 Sl.nil [] := ⟨⟨ws, hblk, (SliceF.only rTx_ok (by decide) ((flatS hws).inHeap rTx_ok (by decide)) hO3 (by simp)).mono rTx_ok fun k hk => by omega⟩, Own.nil _ _ _ _ _ _, hE.only hO13, by have := hE.lt; omega, Nat.zero_le _, hll⟩
 have sm : ∀ {u u' : World}, w2.heap.size <= u.heap.size -> OnlyP (fun k => b <= k) u u' -> Same [k1] u u' := fun hu hO => hO.same (by intro x hx; simp only [List.mem_singleton] at hx; subst hx; omega)
 refine (skip_c hblk (Nat.zero_le _) (by omega)).mono ?_
 rintro _ w4 ⟨rfl, hO4, hb4⟩
 have p4 : OnlyP (fun k => b <= k) w3 w4 := hO4.p fun x hx => .inl (by simp only [List.mem_singleton] at hx; omega)
 have hC4 : Cut w4 b l (0 + skN false (l.drop 0)) Sl.nil [] := hC0.move hO4 (sk_in (Nat.zero_le _)) fun ws' h' => by
  have : ws' = ws := by
   unfold Blk at h' hblk
   rw [h'] at hblk
   simp [Sl.v] at hblk
   cases ws; cases ws'; simp_all
  subst this
  exact hb4
 refine ⟨rfl, sm (by omega) p4, T l, _, ws, Sl.nil, hb4, fun nv e1 e2 s0 i0 l1 l2 w' => e1 = 0 /\ e2 = 0 /\ s0 = T l /\ ∃ (i : Nat) (acc : List Tk), i0 = (i : Int) /\ Cut w' b l i l2 acc /\ acc.length <= i /\ skN false (l.drop i) = 0 /\ toks l 0 = pre acc (toks l i) /\ nv = l.length - i /\ OnlyP (fun k => b <= k) w3 w' /\ Blk w' b 75 [.string (T l), .int .i64 (i : Int), l1.v, l2.v], l.length - (0 + skN false (l.drop 0)), ?_, ?_⟩
 · refine ⟨rfl, rfl, rfl, _, [], rfl, hC4, Nat.zero_le _, ?_, ?_, rfl, p4, hb4⟩
   · rw [<- List.drop_drop]
     exact sk_idem false (l.drop 0)
   · rw [<- toks_skip (Nat.zero_le _)]
     cases toks l 0 <;> rfl
 rintro nv _ _ _ _ l1 rs w5 ⟨rfl, rfl, rfl, i, acc, rfl, hC, hlen, hsk, htk, rfl, hO5, hb5⟩
 have z5 := hO5.size
 have hil := hC.il
 refine (end_c hb5).mono ?_
 rintro _ w6 ⟨rfl, hO6⟩
 have hC6 := hC.only hO6
 have hb6 : Blk w6 b 75 [.string (T l), .int .i64 (i : Int), l1.v, rs.v] := (hO6.block b hb5.lt (by simp)).trans hb5
 have z6 := hO6.size
 have hst := toks_step hC.il
 rw [hsk, Nat.add_zero] at hst
 refine ⟨_, rfl, hO6.same (by simp; omega), T l, i, l1, rs, hb6, fun hc => ?_, fun hc => ?_⟩
 · have hlt : i < l.length := by simpa using hc
   rw [if_neg (by omega)] at hst
   refine (token_c hC6 (by omega) hlt).mono ?_
   rintro _ w7 ⟨v, rfl, hO7, hd⟩
   have p7 : OnlyP (fun k => b <= k) w3 w7 := (hO5.tr0 hO6).trans hO7 fun k hk => .inl hk
   have z7 := hO7.size
   unfold Did at hd
   cases hq : tokR (l.drop i) with
   | error e =>
    rw [hq] at hd hst
    obtain ⟨rfl, rs7, hC7⟩ := hd
    obtain ⟨ws7, hb7, _⟩ := hC7.blk
    refine ⟨e, rfl, sm (by omega) hO7, T l, i, ws7, rs7, hb7, fun _ w8 hO8 _ => ⟨Sl.nil, ?_, ?_, ?_⟩, fun he => absurd (tok_err hq) (by simpa using he)⟩
    · rw [htm, htk, hst]; rfl
    · rw [htm, htk, hst]
      exact Own.nil _ _ _ _ _ _
    · exact (((hO13.p0 (F := fun k => w.heap.size <= k)).trans p7 fun k hk => .inl (by omega)).trans (hO8.p (F := fun k => k = k1) fun x hx => .inl (by simpa using hx)) fun k hk => .inl (by omega)).only fun k hk => hk
   | ok q =>
    rw [hq] at hd hst
    obtain ⟨rfl, rs7, hC7⟩ := hd
    obtain ⟨ws7, hb7, _⟩ := hC7.blk
    have hq1 := tok_len hq
    have h7l := hC7.il
    refine ⟨0, rfl, sm (by omega) hO7, T l, (i + q.2.2.2 : Nat), ws7, rs7, hb7, fun he => (by simp at he), fun _ => (skip_c hb7 h7l (by omega)).mono ?_⟩
    rintro _ w9 ⟨rfl, hO9, hb9⟩
    have p9 : OnlyP (fun k => b <= k) w7 w9 := hO9.p fun x hx => .inl (by simp only [List.mem_singleton] at hx; omega)
    have hC9 := hC7.move hO9 (sk_in h7l) fun ws' h' => by
     have : ws' = ws7 := by
      unfold Blk at h' hb7
      rw [h'] at hb7
      simp [Sl.v] at hb7
      cases ws7; cases ws'; simp_all
     subst this
     exact hb9
    refine ⟨rfl, sm (by omega) p9, T l, _, ws7, rs7, hb9, l.length - (i + q.2.2.2 + skN false (l.drop (i + q.2.2.2))), by omega, rfl, rfl, rfl, _, _, rfl, hC9, ?_, ?_, ?_, rfl, p7.trans p9 fun k hk => .inl hk, hb9⟩
    · rw [List.length_append, List.length_singleton]; omega
    · rw [<- List.drop_drop]
      exact sk_idem false _
    · rw [htk, hst, <- toks_skip h7l, <- pre_pre]
      dsimp only
      cases toks l (i + q.2.2.2) <;> rfl
 · have hge : l.length <= i := by simpa using hc
   rw [if_pos hge] at hst
   refine (add_c hC6 5 [] 0 0 0 (by omega) (by omega)).mono ?_
   rintro _ w10 ⟨rfl, hO10, rs10, hC10⟩
   obtain ⟨ws10, hb10, _⟩ := hC10.blk
   have p10 : OnlyP (fun k => b <= k) w3 w10 := (hO5.tr0 hO6).trans hO10 fun k hk => .inl hk
   have htt : tokensM l = (acc ++ [⟨5, [], 0, (i : Nat)⟩], 0, 0) := by
    rw [htm, htk, hst]; rfl
   refine ⟨rfl, sm (by omega) hO10, T l, _, ws10, rs10, hb10, fun w11 hO11 _ => ⟨rs10, ?_, ?_, ?_⟩⟩
   · rw [htt]
   · rw [htt]
     have : OwnK (b + 1) w11 rs10 _ := hC10.own.keep fun k hk hlt => hO11.block k hlt (by simp only [List.mem_singleton]; omega)
     exact Own.low this (by omega)
   · exact (((hO13.p0 (F := fun k => w.heap.size <= k)).trans p10 fun k hk => .inl (by omega)).trans (hO11.p (F := fun k => k = k1) fun x hx => .inl (by simpa using hx)) fun k hk => .inl (by omega)).only fun k hk => hk
end Go.Proofs.YtfknfhajdiccgaaGreatDoor.Con
namespace Go.Proofs.YtfknfhajdiccgaaGreatDoor.Con
open Go Go.RowKit Go.Kt Go.Kt.V
set_option linter.unusedSimpArgs false
set_option linter.unusedVariables false
set_option maxHeartbeats 4000000
inductive Ex where
 | mk (k n : Int) (s : List UInt8) (op : Int) (subs : List Ex) (a : Int)
def Ex.k : Ex -> Int | .mk k _ _ _ _ _ => k
def Ex.n : Ex -> Int | .mk _ n _ _ _ _ => n
def Ex.s : Ex -> List UInt8 | .mk _ _ s _ _ _ => s
def Ex.op : Ex -> Int | .mk _ _ _ op _ _ => op
def Ex.subs : Ex -> List Ex | .mk _ _ _ _ l _ => l
def Ex.a : Ex -> Int | .mk _ _ _ _ _ a => a
def tk0 : Tk := ⟨5, [], 0, -1⟩
def tk (ts : List Tk) (i : Nat) : Tk := (ts[i]?).getD tk0
def sg (ts : List Tk) (i : Nat) (s : List UInt8) : Bool := (tk ts i).k == 4 && decide ((tk ts i).t = s)
def wrongF (ts : List Tk) (i : Nat) : Int × Int := (if (tk ts i).k = 5 then 3 else 4, (tk ts i).a)
theorem tk_at {ts : List Tk} {i : Nat} (h : i < ts.length) : ts[i]? = some (tk ts i) := by
 unfold tk
 rw [List.getElem?_eq_getElem h]
 rfl
def EndL (ts : List Tk) : Prop := ∀ i, i < ts.length -> ((tk ts i).k = 5 ↔ i + 1 = ts.length)
theorem EndL.next {ts : List Tk} (h : EndL ts) {i : Nat} (hi : i < ts.length) (hk : (tk ts i).k ≠ 5) : i + 1 < ts.length := by
 have h2 : ¬ (i + 1 = ts.length) := fun e => hk ((h i hi).2 e)
 omega
theorem sg_k {ts : List Tk} {i : Nat} {s : List UInt8} (h : sg ts i s = true) : (tk ts i).k ≠ 5 := by
 simp only [sg, Bool.and_eq_true, beq_iff_eq] at h
 rw [h.1]
 decide
def opsL : List (List UInt8) := [[], [43], [45], [42], [47], [37], [60], [60, 61], [62], [62, 61], [61, 61], [33, 61], [38, 38], [124, 124], [45], [33]]
def rowOf (op : Int) : Int := if 3 <= op /\ op <= 5 then 5 else if op = 1 ∨ op = 2 then 4 else if 6 <= op /\ op <= 9 then 3 else if op = 10 ∨ op = 11 then 2 else if op = 12 then 1 else if op = 13 then 0 else 6
def opTx (op : Nat) : List UInt8 := (opsL[op]?).getD []
def opFrom (ts : List Tk) (k : Int) (i : Nat) : Nat -> Nat -> Int
 | 0, _ => 0
 | f + 1, op => if rowOf (op : Int) = k /\ sg ts i (opTx op) = true then (op : Int) else opFrom ts k i f (op + 1)
def opAt (ts : List Tk) (k : Int) (i : Nat) : Int := opFrom ts k i 13 1
theorem opFrom_sg {ts : List Tk} {k : Int} {i : Nat} : ∀ (f op : Nat), opFrom ts k i f op ≠ 0 -> (tk ts i).k ≠ 5
 | 0, _, h => absurd rfl h
 | f + 1, op, h => by
  rw [opFrom] at h
  split at h
  · rename_i hc
    exact sg_k hc.2
  · exact opFrom_sg f _ h
abbrev Pr := Except (Int × Int) (Ex × Nat)
def mapR (g : Ex -> Ex) : Pr -> Pr
 | .error e => .error e
 | .ok (x, j) => .ok (g x, j)
def andR : Pr -> (Ex -> Nat -> Pr) -> Pr
 | .error e, _ => .error e
 | .ok (x, j), g => g x j
def parR (ts : List Tk) : Pr -> Pr
 | .error e => .error e
 | .ok (x, j) => if sg ts j [41] then .ok (x, j + 1) else .error (wrongF ts j)
def nestR (d : Nat) (a : Int) (r : Pr) : Pr := if d = 20 then .error (21, a) else r
def inR (ts : List Tk) (i : Nat) : Pr :=
 if sg ts (i + 1) [40] then
  (if (tk ts (i + 2)).k = 1 then
   (if sg ts (i + 3) [41] then .ok (.mk 3 0 (tk ts (i + 2)).t 0 [] (tk ts i).a, i + 4) else .error (wrongF ts (i + 3)))
  else .error (wrongF ts (i + 2)))
 else .error (wrongF ts (i + 1))
def oneR (ts : List Tk) (E0 One : Nat -> Pr) (d i : Nat) : Pr :=
 if (sg ts i [45] || sg ts i [33]) = true then mapR (fun x => .mk 4 0 [] (if (tk ts i).t = [33] then 15 else 14) [x] (tk ts i).a) (nestR d (tk ts i).a (One (i + 1)))
 else if sg ts i [40] = true then nestR d (tk ts i).a (parR ts (E0 (i + 1)))
 else if (tk ts i).k = 3 then .ok (.mk 1 (tk ts i).n [] 0 [] (tk ts i).a, i + 1)
 else if (tk ts i).k = 1 then .ok (.mk 2 0 (tk ts i).t 0 [] (tk ts i).a, i + 1)
 else if (tk ts i).k = 2 /\ (tk ts i).t = [105, 110] then inR ts i
 else .error (wrongF ts i)
def loopR (ts : List Tk) (E : Nat -> Pr) (k : Int) : Nat -> Ex -> Nat -> Pr
 | 0, x, j => .ok (x, j)
 | g + 1, x, j => if opAt ts k j = 0 then .ok (x, j) else andR (E (j + 1)) fun y j' => loopR ts E k g (.mk 5 0 [] (opAt ts k j) [x, y] x.a) j'
def exprR (ts : List Tk) : Nat -> Nat -> Nat -> Nat -> Pr
 | 0, _, _, _ => .error (1, 0)
 | f + 1, k, d, i => if k = 6 then oneR ts (exprR ts f 0 (d + 1)) (exprR ts f 6 (d + 1)) d i else andR (exprR ts f (k + 1) d i) fun x j => loopR ts (exprR ts f (k + 1) d) (k : Int) (ts.length - j) x j
theorem mapR_ok {g : Ex -> Ex} {r : Pr} {x : Ex} {j : Nat} (h : mapR g r = .ok (x, j)) : ∃ y, r = .ok (y, j) /\ x = g y := by
 cases r with
 | error e => cases h
 | ok q =>
  obtain ⟨y, j'⟩ := q
  simp only [mapR, Except.ok.injEq, Prod.mk.injEq] at h
  obtain ⟨rfl, rfl⟩ := h
  exact ⟨y, rfl, rfl⟩
theorem nestR_ok {d : Nat} {a : Int} {r : Pr} {q : Ex × Nat} (h : nestR d a r = .ok q) : r = .ok q /\ d ≠ 20 := by
 unfold nestR at h
 split at h
 · cases h
 · exact ⟨h, by assumption⟩
theorem parR_ok {ts : List Tk} {r : Pr} {x : Ex} {j : Nat} (h : parR ts r = .ok (x, j)) : ∃ j', r = .ok (x, j') /\ sg ts j' [41] = true /\ j = j' + 1 := by
 cases r with
 | error e => cases h
 | ok q =>
  obtain ⟨y, j'⟩ := q
  simp only [parR] at h
  split at h
  · simp only [Except.ok.injEq, Prod.mk.injEq] at h
    obtain ⟨rfl, rfl⟩ := h
    exact ⟨j', rfl, by assumption, rfl⟩
  · cases h
theorem andR_ok {r : Pr} {g : Ex -> Nat -> Pr} {q : Ex × Nat} (h : andR r g = .ok q) : ∃ x j, r = .ok (x, j) /\ g x j = .ok q := by
 cases r with
 | error e => cases h
 | ok p => exact ⟨p.1, p.2, rfl, h⟩
theorem inR_ok {ts : List Tk} {i : Nat} {x : Ex} {j : Nat} (h : inR ts i = .ok (x, j)) : j = i + 4 /\ x = .mk 3 0 (tk ts (i + 2)).t 0 [] (tk ts i).a := by
 unfold inR at h
 split at h
 · split at h
   · split at h
     · simp only [Except.ok.injEq, Prod.mk.injEq] at h
       exact ⟨h.2.symm, h.1.symm⟩
     · cases h
   · cases h
 · cases h
theorem oneR_mono {ts : List Tk} {E0 One : Nat -> Pr} {d i : Nat} {x : Ex} {j : Nat} (hE : ∀ i x j, E0 i = .ok (x, j) -> i < j) (hO : ∀ i x j, One i = .ok (x, j) -> i < j) (h : oneR ts E0 One d i = .ok (x, j)) : i < j := by
 unfold oneR at h
 split at h
 · obtain ⟨y, h1, _⟩ := mapR_ok h
   have := hO _ _ _ (nestR_ok h1).1
   omega
 · split at h
   · obtain ⟨j', h1, _, rfl⟩ := parR_ok (nestR_ok h).1
     have := hE _ _ _ h1
     omega
   · split at h
     · simp only [Except.ok.injEq, Prod.mk.injEq] at h; omega
     · split at h
       · simp only [Except.ok.injEq, Prod.mk.injEq] at h; omega
       · split at h
         · have := (inR_ok h).1; omega
         · cases h
theorem loopR_mono {ts : List Tk} {E : Nat -> Pr} {k : Int} (hE : ∀ i x j, E i = .ok (x, j) -> i < j) : ∀ (g : Nat) (x : Ex) (j : Nat) {x' : Ex} {j' : Nat}, loopR ts E k g x j = .ok (x', j') -> j <= j'
 | 0, x, j, x', j', h => by
  simp only [loopR, Except.ok.injEq, Prod.mk.injEq] at h; omega
 | g + 1, x, j, x', j', h => by
  rw [loopR] at h
  split at h
  · simp only [Except.ok.injEq, Prod.mk.injEq] at h; omega
  · obtain ⟨y, m, h1, h2⟩ := andR_ok h
    have := hE _ _ _ h1
    have := loopR_mono hE g _ _ h2
    omega
theorem exprR_mono {ts : List Tk} : ∀ (f k d i : Nat) {x : Ex} {j : Nat}, exprR ts f k d i = .ok (x, j) -> i < j
 | 0, _, _, _, _, _, h => by cases h
 | f + 1, k, d, i, x, j, h => by
  rw [exprR] at h
  split at h
  · exact oneR_mono (fun i x j h => exprR_mono f _ _ i h) (fun i x j h => exprR_mono f _ _ i h) h
  · obtain ⟨y, m, h1, h2⟩ := andR_ok h
    have := exprR_mono f _ _ _ h1
    have := loopR_mono (fun i x j h => exprR_mono f _ _ i h) _ _ _ h2
    omega
def need (k d : Nat) : Nat := (20 - d) * 8 + (7 - k)
def parseR (ts : List Tk) (i : Nat) : Pr := exprR ts (need 0 0) 0 0 i
end Go.Proofs.YtfknfhajdiccgaaGreatDoor.Con
namespace Go.Proofs.YtfknfhajdiccgaaGreatDoor.Con
open Go Go.RowKit Go.Kt Go.Kt.V Go.Proofs.YtfknfhajdiccgaaGreatDoor.Vc
set_option linter.unusedSimpArgs false
set_option linter.unusedVariables false
set_option maxHeartbeats 4000000
structure Rd (F G : Nat -> Prop) (ts : List Tk) (w : World) (b : Nat) (l sn : Sl) (i : Nat) (fc fa d : Int) : Prop where
 blk : Blk w b 84 [l.v, .int .i64 (i : Int), .int .i64 fc, .int .i64 fa, .int .i64 d, sn.v]
 tok : SliceF rTk 4 w F l ts
 sig : SliceF rTx 1 w G sn opsL
 hF : ∀ k, F k -> k < b
 hG : ∀ k, G k -> k < b
 en : EndL ts
 lt : i < ts.length
section
variable {F G : Nat -> Prop} {ts : List Tk} {w w' : World} {b : Nat} {l sn : Sl} {i : Nat} {fc fa d : Int}
theorem Rd.only (h : Rd F G ts w b l sn i fc fa d) (hO : Only [] w w') : Rd F G ts w' b l sn i fc fa d :=
 ⟨hO.blk h.blk (by simp), SliceF.only rTk_ok (by decide) h.tok hO (by simp), SliceF.only rTx_ok (by decide) h.sig hO (by simp), h.hF, h.hG, h.en, h.lt⟩
theorem Rd.turn (h : Rd F G ts w b l sn i fc fa d) (hO : Only [b] w w') {i' : Nat} {fc' fa' d' : Int} (hB : Blk w' b 84 [l.v, .int .i64 (i' : Int), .int .i64 fc', .int .i64 fa', .int .i64 d', sn.v]) (hi : i' < ts.length) : Rd F G ts w' b l sn i' fc' fa' d' :=
 ⟨hB, SliceF.only rTk_ok (by decide) h.tok hO fun k hk _ hm => by have := h.hF k hk; simp only [List.mem_singleton] at hm; omega, SliceF.only rTx_ok (by decide) h.sig hO fun k hk _ hm => by have := h.hG k hk; simp only [List.mem_singleton] at hm; omega, h.hF, h.hG, h.en, hi⟩
theorem Rd.own (h : Rd F G ts w b l sn i fc fa d) {bs : List Nat} (hO : Only bs w w') (hb : ∀ x, x ∈ bs -> b < x) : Rd F G ts w' b l sn i fc fa d :=
 ⟨hO.blk h.blk fun hm => by have := hb b hm; omega, SliceF.only rTk_ok (by decide) h.tok hO fun k hk _ hm => (by have := h.hF k hk; have := hb k hm; omega), SliceF.only rTx_ok (by decide) h.sig hO fun k hk _ hm => (by have := h.hG k hk; have := hb k hm; omega), h.hF, h.hG, h.en, h.lt⟩
theorem Rd.lb (h : Rd F G ts w b l sn i fc fa d) : b < w.heap.size := h.blk.lt
theorem Rd.big (h : Rd F G ts w b l sn i fc fa d) : ts.length <= 9223372036854775807 := by
 have h1 := h.tok.len
 have h2 := h.tok.cap
 have h3 := h.tok.big
 omega
theorem Rd.now (h : Rd F G ts w b l sn i fc fa d) : ∃ ad, SlAt l (i : Int) 4 ad /\ Cells w ad [.int .i64 (tk ts i).k, .string (T (tk ts i).t), .int .i64 (tk ts i).n, .int .i64 (tk ts i).a] := by
 have hl := h.tok.len
 have hlt := h.lt
 obtain ⟨ad, x, cs, g1, g2, g3, g4, g5, g6⟩ := h.tok.get (Int.natCast_nonneg i) (by omega)
 rw [Int.toNat_natCast, tk_at h.lt] at g2
 injection g2 with g2
 subst g2
 unfold rTk at g6
 subst g6
 exact ⟨ad, g1, g5⟩
theorem now_c (h : Rd F G ts w b l sn i fc fa d) : Calls Tryz.prog 73 #[.pointer (some ⟨b, 0, none⟩)] w fun e w' => e = .returned (tk ts i).v /\ Only [] w w' := by
 refine ret (v20w ⟨b, 0, none⟩ (fun v w' => v = (tk ts i).v /\ Only [] w w') w ?_)
 unfold v20v
 intro k0 w0 hk hk' hO
 have h0 := h.only hO
 obtain ⟨ad, g1, g2⟩ := h0.now
 exact ⟨l, Blk.at1 h0.blk 0 rfl, _, Blk.at1 h0.blk 1 rfl, ad, g1, _, _, _, _, g2, fun w1 hO1 => ⟨rfl, hO.new hO1 hk⟩⟩
theorem bad_c (h : Rd F G ts w b l sn i fc fa d) : Calls Tryz.prog 37 #[.pointer (some ⟨b, 0, none⟩)] w fun e w' => e = .returned (.bool (fc != 0)) /\ Only [] w w' := by
 refine ret (v17w ⟨b, 0, none⟩ (fun v w' => v = (.bool (fc != 0)) /\ Only [] w w') w ?_)
 unfold v17v
 exact ⟨fc, Blk.at1 h.blk 2 rfl, rfl, Only.refl _ _⟩
theorem stop_c (h : Rd F G ts w b l sn i fc fa d) (c : Int) : Calls Tryz.prog 92 #[.pointer (some ⟨b, 0, none⟩), .int .i64 c] w fun e w' => e = .returned (.tuple #[]) /\ Only [b] w w' /\
  Rd F G ts w' b l sn i (if fc = 0 then c else fc) (if fc = 0 then (tk ts i).a else fa) d := by
 refine ret (v21w ⟨b, 0, none⟩ c (fun v w' => v = (.tuple #[]) /\ Only [b] w w' /\ Rd F G ts w' b l sn i (if fc = 0 then c else fc) (if fc = 0 then (tk ts i).a else fa) d) w ?_)
 unfold v21v
 refine (bad_c h).mono ?_
 rintro _ w0 ⟨rfl, hO0⟩
 have h0 := h.only hO0
 refine ⟨_, rfl, fun hc => (now_c h0).mono ?_, fun hc => ?_⟩
 · have hc : fc = 0 := by simpa using hc
   subst hc
   rintro _ w1 ⟨rfl, hO1⟩
   have h1 := h0.only hO1
   refine ⟨_, _, _, _, rfl, b, 2, _, _, rfl, h1.blk, by simp, fun w2 hO2 hB2 => ⟨rfl, (hO0.tr0 hO1).weaken (fun _ h => (by cases h)) |>.trans hO2 (fun x hx => .inl hx), ?_⟩⟩
   rw [if_pos rfl, if_pos rfl]
   exact h1.turn hO2 hB2 h.lt
 · have hc : fc ≠ 0 := by simpa using hc
   rw [if_neg hc, if_neg hc]
   exact ⟨rfl, hO0.weaken fun _ h => (by cases h), h0⟩
theorem wrong_c (h : Rd F G ts w b l sn i fc fa d) : Calls Tryz.prog 79 #[.pointer (some ⟨b, 0, none⟩)] w fun e w' => e = .returned (.tuple #[]) /\ Only [b] w w' /\
  Rd F G ts w' b l sn i (if fc = 0 then (wrongF ts i).1 else fc) (if fc = 0 then (wrongF ts i).2 else fa) d := by
 refine ret (v22w ⟨b, 0, none⟩ (fun v w' => v = (.tuple #[]) /\ Only [b] w w' /\ Rd F G ts w' b l sn i (if fc = 0 then (wrongF ts i).1 else fc) (if fc = 0 then (wrongF ts i).2 else fa) d) w ?_)
 unfold v22v
 refine ⟨fun w' => Only [b] w w' /\ ((tk ts i).k = 5 -> Rd F G ts w' b l sn i (if fc = 0 then 3 else fc) (if fc = 0 then (tk ts i).a else fa) d) /\ ((tk ts i).k ≠ 5 -> Rd F G ts w' b l sn i fc fa d), ?_, (now_c h).mono ?_⟩
 · rintro w0 ⟨hO0, h1, h2⟩
   by_cases hk : (tk ts i).k = 5
   · refine (stop_c (h1 hk) 4).mono ?_
     rintro _ w1 ⟨rfl, hO1, hR⟩
     refine ⟨rfl, rfl, hO0.trans hO1 (fun x hx => .inl hx), ?_⟩
     unfold wrongF
     rw [if_pos hk]
     by_cases hc : fc = 0
     · rw [if_pos hc, if_pos hc, if_neg (by decide), if_neg (by decide)] at hR
       rw [if_pos hc, if_pos hc]; exact hR
     · rw [if_neg hc, if_neg hc, if_neg hc, if_neg hc] at hR
       rw [if_neg hc, if_neg hc]; exact hR
   · refine (stop_c (h2 hk) 4).mono ?_
     rintro _ w1 ⟨rfl, hO1, hR⟩
     refine ⟨rfl, rfl, hO0.trans hO1 (fun x hx => .inl hx), ?_⟩
     unfold wrongF
     rw [if_neg hk]
     exact hR
 · rintro _ w2 ⟨rfl, hO2⟩
   have h2 := h.only hO2
   refine ⟨_, _, _, _, rfl, fun hc => (stop_c h2 3).mono ?_, fun hc => ⟨hO2.weaken fun _ h => (by cases h), fun e => ?_, fun _ => h2⟩⟩
   · rintro _ w3 ⟨rfl, hO3, hR⟩
     exact ⟨rfl, hO2.weaken (fun _ h => (by cases h)) |>.trans hO3 (fun x hx => .inl hx), fun _ => hR, fun e => absurd (by simpa using hc) e⟩
   · rw [e] at hc; simp at hc
theorem is_c (h : Rd F G ts w b l sn i fc fa d) {H : Nat -> Prop} {s : Sl} {ss : List (List UInt8)} (hs : SliceF rTx 1 w H s ss) : Calls Tryz.prog 74 #[.pointer (some ⟨b, 0, none⟩), s.v] w fun e w' =>
  e = .returned (.bool (fc == 0 && (tk ts i).k == 4 && ss.contains (tk ts i).t)) /\ Only [] w w' := by
 refine ret (v18w ⟨b, 0, none⟩ s (fun v w' => v = (.bool (fc == 0 && (tk ts i).k == 4 && ss.contains (tk ts i).t)) /\ Only [] w w') w ?_)
 unfold v18v
 refine (now_c h).mono ?_
 rintro _ w0 ⟨rfl, hO0⟩
 refine ⟨_, _, _, _, rfl, fun k0 w1 hk hk' hO1 => ⟨fun c w' => c = (fc == 0 && (tk ts i).k == 4 && ss.contains (tk ts i).t) /\ Only [] w w', fun c w2 h2 => ⟨by rw [h2.1], h2.2⟩, ?_⟩⟩
 have hO01 := hO0.tr0 hO1
 refine (bad_c (h.only hO01)).mono ?_
 rintro _ w3 ⟨rfl, hO3⟩
 have e : (!(fc != 0)) = (fc == 0) := by cases h : (fc == 0) <;> simp [bne, h]
 refine ⟨_, rfl, hO3.same (by simp; omega), fun hc => (containsS_c (SliceF.only rTx_ok (by decide) hs (hO01.tr0 hO3) (by simp)) _).mono ?_, fun hc => ⟨?_, hO01.tr0 hO3⟩⟩
 · rintro _ w4 ⟨rfl, hO4⟩
   rw [e] at hc
   have hl := h.lb
   have z3 := hO3.size
   exact ⟨_, rfl, hO4.same (by simp; omega), by rw [hc, Bool.true_and], hO01.tr0 (hO3.tr0 hO4)⟩
 · rw [e] at hc
   rw [hc, Bool.false_and]
theorem is1 (h : Rd F G ts w b l sn i fc fa d) (s : List UInt8) : ∃ (s0 : Sl) (w0 : World), (Instr.buildSlice 26 1 #[.mk 0 (.string (T s))]).run Tryz.prog w = .ok s0.v w0 /\ Only [] w w0 /\
  Calls Tryz.prog 74 #[.pointer (some ⟨b, 0, none⟩), s0.v] w0 fun e w' => e = .returned (.bool (fc == 0 && sg ts i s)) /\ Only [] w0 w' := by
 obtain ⟨s0, w0, k1, k2, k3⟩ := buildS w [s] (n := 1) (parts := #[(0, .string (T s))]) rfl rfl (by decide) (by decide)
 refine ⟨s0, w0, k1, k3, (is_c (h.only k3) (flatS k2)).mono ?_⟩
 rintro _ w1 ⟨rfl, hO1⟩
 have e : [s].contains (tk ts i).t = decide ((tk ts i).t = s) := by
  by_cases e : (tk ts i).t = s
  · rw [decide_eq_true e, e]; simp
  · rw [decide_eq_false e]; simp [e]
 refine ⟨?_, hO1⟩
 unfold sg
 rw [Bool.and_assoc, e]
theorem is2 (h : Rd F G ts w b l sn i fc fa d) : ∃ (s0 : Sl) (w0 : World), (Instr.buildSlice 26 2 #[.mk 0 (.string (ByteArray.mk #[45])), .mk 1 (.string (ByteArray.mk #[33]))]).run Tryz.prog w = .ok s0.v w0 /\ Only [] w w0 /\
  Calls Tryz.prog 74 #[.pointer (some ⟨b, 0, none⟩), s0.v] w0 fun e w' => e = .returned (.bool (fc == 0 && (sg ts i [45] || sg ts i [33]))) /\ Only [] w0 w' := by
 obtain ⟨s0, w0, k1, k2, k3⟩ := buildS w [[45], [33]] (n := 2) (parts := #[(0, .string (T [45])), (1, .string (T [33]))]) rfl rfl (by decide) (by decide)
 refine ⟨s0, w0, k1, k3, (is_c (h.only k3) (flatS k2)).mono ?_⟩
 rintro _ w1 ⟨rfl, hO1⟩
 have e : [[45], [33]].contains (tk ts i).t = (decide ((tk ts i).t = [45]) || decide ((tk ts i).t = [33])) := by
  rw [Bool.eq_iff_iff]
  simp
 refine ⟨?_, hO1⟩
 unfold sg
 rw [Bool.and_assoc, <- Bool.and_or_distrib_left, e]
theorem must_c (h : Rd F G ts w b l sn i fc fa d) (s : List UInt8) : Calls Tryz.prog 77 #[.pointer (some ⟨b, 0, none⟩), .string (T s)] w fun e w' => e = .returned (.tuple #[]) /\ Only [b] w w' /\
  (if fc == 0 && sg ts i s then Rd F G ts w' b l sn (i + 1) fc fa d else Rd F G ts w' b l sn i (if fc = 0 then (wrongF ts i).1 else fc) (if fc = 0 then (wrongF ts i).2 else fa) d) := by
 refine ret (v19w ⟨b, 0, none⟩ _ (fun v w' => v = (.tuple #[]) /\ Only [b] w w' /\ (if fc == 0 && sg ts i s then Rd F G ts w' b l sn (i + 1) fc fa d else Rd F G ts w' b l sn i (if fc = 0 then (wrongF ts i).1 else fc) (if fc = 0 then (wrongF ts i).2 else fa) d)) w ?_)
 unfold v19v
 obtain ⟨s0, w0, k1, k2, k3⟩ := is1 h s
 refine ⟨s0, w0, k1, k3.mono ?_⟩
 rintro _ w1 ⟨rfl, hO1⟩
 have h1 := h.only (k2.tr0 hO1)
 have hO01 : Only [b] w w1 := (k2.tr0 hO1).weaken fun _ h => (by cases h)
 refine ⟨_, rfl, fun hc => (wrong_c h1).mono ?_, fun hc => ?_⟩
 · rintro _ w2 ⟨rfl, hO2, hR⟩
   have hc : (fc == 0 && sg ts i s) = false := by rwa [Bool.not_eq_true'] at hc
   rw [hc]
   exact ⟨rfl, rfl, hO01.trans hO2 (fun x hx => .inl hx), hR⟩
 · have hc : (fc == 0 && sg ts i s) = true := by rwa [Bool.not_eq_false'] at hc
   rw [hc]
   simp only [Bool.and_eq_true] at hc
   have hn := h.en.next h.lt (sg_k hc.2)
   have hb := h.big
   refine ⟨(i : Int), Blk.at1 h1.blk 1 rfl, b, 1, _, _, rfl, h1.blk, by simp, fun w3 hO3 hB3 => ⟨rfl, hO01.trans hO3 (fun x hx => .inl hx), h1.turn hO3 ?_ hn⟩⟩
   rw [wr' (by omega) (by omega)] at hB3
   exact hB3
theorem name'_c (h : Rd F G ts w b l sn i fc fa d) : Calls Tryz.prog 78 #[.pointer (some ⟨b, 0, none⟩)] w fun e w' => Only [b] w w' /\
  (if fc = 0 /\ (tk ts i).k = 1 then e = .returned (.string (T (tk ts i).t)) /\ Rd F G ts w' b l sn (i + 1) fc fa d else e = .returned (.string (T [])) /\ Rd F G ts w' b l sn i (if fc = 0 then (wrongF ts i).1 else fc) (if fc = 0 then (wrongF ts i).2 else fa) d) := by
 refine (v25w ⟨b, 0, none⟩ (fun v w' => Only [b] w w' /\ (if fc = 0 /\ (tk ts i).k = 1 then v = (.string (T (tk ts i).t)) /\ Rd F G ts w' b l sn (i + 1) fc fa d else v = (.string (T [])) /\ Rd F G ts w' b l sn i (if fc = 0 then (wrongF ts i).1 else fc) (if fc = 0 then (wrongF ts i).2 else fa) d)) w ?_).mono (by
  rintro e w' ⟨v, rfl, hO, hv⟩
  refine ⟨hO, ?_⟩
  split at hv
  · rename_i hc; rw [if_pos hc]; exact ⟨by rw [hv.1], hv.2⟩
  · rename_i hc; rw [if_neg hc]; exact ⟨by rw [hv.1], hv.2⟩)
 unfold v25v
 refine (now_c h).mono ?_
 rintro _ w0 ⟨rfl, hO0⟩
 refine ⟨_, _, _, _, rfl, fun k0 w1 hk hk' hO1 => ?_⟩
 have hO01 := hO0.tr0 hO1
 have z0 := hO0.size
 have hl := h.lb
 refine (bad_c (h.only hO01)).mono ?_
 rintro _ w2 ⟨rfl, hO2⟩
 have z2 := hO2.size
 have h2 := h.only (hO01.tr0 hO2)
 have hO02 : Only [b] w w2 := (hO01.tr0 hO2).weaken fun _ h => (by cases h)
 refine ⟨_, rfl, hO2.same (by simp; omega), fun hc => (wrong_c h2).mono ?_, fun hc => ?_⟩
 · rintro _ w3 ⟨rfl, hO3, hR⟩
   refine ⟨rfl, hO3.same (by simp; omega), hO02.trans hO3 (fun x hx => .inl hx), ?_⟩
   rw [if_neg (fun hh => by rw [hh.1, hh.2] at hc; simp at hc)]
   exact ⟨rfl, hR⟩
 · have hc : fc = 0 /\ (tk ts i).k = 1 := by simpa using hc
   have hn := h.en.next h.lt (by rw [hc.2]; decide)
   have hb := h.big
   refine ⟨(i : Int), Blk.at1 h2.blk 1 rfl, b, 1, _, _, rfl, h2.blk, by simp, by omega, fun w3 hO3 hB3 => ⟨hO02.trans hO3 (fun x hx => .inl hx), ?_⟩⟩
   rw [if_pos hc]
   refine ⟨rfl, h2.turn hO3 ?_ hn⟩
   rw [wr' (by omega) (by omega)] at hB3
   exact hB3
end
theorem erow_c (w : World) (op : Int) : Calls Tryz.prog 80 #[.int .i64 op] w fun e w' => e = .returned (.int .i64 (rowOf op)) /\ w' = w := by
 refine ret (v30w op (fun v w' => v = .int .i64 (rowOf op) /\ w' = w) w ?_)
 unfold v30v
 have fin : ∀ {k : Int} {w1 : World}, rowOf op = k -> (Value.int .i64 k = .int .i64 (rowOf op) /\ w1 = w1) := fun e => ⟨by rw [e], rfl⟩
 refine ⟨fun h => fin ?_, fun h => ⟨fun b w' => b = decide (op = 1 ∨ op = 2) /\ w' = w, ?_, fun h1 => ⟨?_, rfl⟩, fun h1 => ⟨?_, rfl⟩⟩⟩
 · simp only [Bool.and_eq_true, decide_eq_true_eq] at h
   unfold rowOf
   rw [if_pos (by omega)]
 · rintro _ w1 ⟨rfl, rfl⟩
   have h : ¬ (3 <= op /\ op <= 5) := fun hh => by rw [decide_eq_true hh.1, decide_eq_true hh.2] at h; cases h
   refine ⟨fun h1 => fin ?_, fun h1 => ⟨fun h2 => fin ?_, fun h2 => ⟨fun b w2 => b = decide (op = 10 ∨ op = 11) /\ w2 = w1, ?_, fun h3 => ⟨?_, rfl⟩, fun h3 => ⟨?_, rfl⟩⟩⟩⟩
   · have h1 := of_decide_eq_true h1
     unfold rowOf
     rw [if_neg h, if_pos h1]
   · have h1 := of_decide_eq_false h1
     simp only [Bool.and_eq_true, decide_eq_true_eq] at h2
     unfold rowOf
     rw [if_neg h, if_neg h1, if_pos (by omega)]
   · rintro _ _ ⟨rfl, rfl⟩
     have h1 := of_decide_eq_false h1
     have h2 : ¬ (6 <= op /\ op <= 9) := fun hh => by rw [decide_eq_true hh.1, decide_eq_true hh.2] at h2; cases h2
     refine ⟨fun h3 => fin ?_, fun h3 => ⟨fun h4 => fin ?_, fun h4 => ⟨fun h5 => fin ?_, fun h5 => fin ?_⟩⟩⟩
     · have h3 := of_decide_eq_true h3
       unfold rowOf
       rw [if_neg h, if_neg h1, if_neg h2, if_pos h3]
     · have h3 := of_decide_eq_false h3
       have h4 : op = 12 := by simpa using h4
       unfold rowOf
       rw [if_neg h, if_neg h1, if_neg h2, if_neg h3, if_pos h4]
     · have h3 := of_decide_eq_false h3
       have h4 : ¬ op = 12 := by simpa using h4
       have h5 : op = 13 := by simpa using h5
       unfold rowOf
       rw [if_neg h, if_neg h1, if_neg h2, if_neg h3, if_neg h4, if_pos h5]
     · have h3 := of_decide_eq_false h3
       have h4 : ¬ op = 12 := by simpa using h4
       have h5 : ¬ op = 13 := by simpa using h5
       unfold rowOf
       rw [if_neg h, if_neg h1, if_neg h2, if_neg h3, if_neg h4, if_neg h5]
   · have h3 : op = 10 := by simpa using h3
     rw [h3]; rfl
   · have h3 : ¬ op = 10 := by simpa using h3
     rw [Bool.eq_iff_iff]
     simp [h3]
 · have h1 : op = 1 := by simpa using h1
   rw [h1]; rfl
 · have h1 : ¬ op = 1 := by simpa using h1
   rw [Bool.eq_iff_iff]
   simp [h1]
section
variable {F G : Nat -> Prop} {ts : List Tk} {w w' : World} {b : Nat} {l sn : Sl} {i : Nat} {fc fa d : Int}
theorem operator_c (h : Rd F G ts w b l sn i fc fa d) (k : Int) : Calls Tryz.prog 55 #[.pointer (some ⟨b, 0, none⟩), .int .i64 k] w fun e w' => e = .returned (.int .i64 (if fc = 0 then opAt ts k i else 0)) /\ Only [] w w' := by
 refine ret (v28w ⟨b, 0, none⟩ k (fun v w' => v = .int .i64 (if fc = 0 then opAt ts k i else 0) /\ Only [] w w') w ?_)
 unfold v28v
 refine ⟨fun nv i0 w' => ∃ op : Nat, 1 <= op /\ op <= 14 /\ i0 = (op : Int) /\ nv = 14 - op /\ (if fc = 0 then opAt ts k i else 0) = (if fc = 0 then opFrom ts k i (14 - op) op else 0) /\ Only [] w w', 13, ⟨1, by decide, by decide, rfl, rfl, rfl, Only.refl _ _⟩, ?_⟩
 rintro nv _ w0 ⟨op, h1, h2, rfl, rfl, hV, hO0⟩
 refine ⟨fun hc => ?_, fun hc => ?_⟩
 · have hc : (op : Int) <= 13 := of_decide_eq_true hc
   obtain ⟨m, hm⟩ : ∃ m, 14 - op = m + 1 := ⟨13 - op, by omega⟩
   rw [hm, opFrom] at hV
   refine ⟨fun c w' => c = (decide (rowOf (op : Int) = k) && (fc == 0 && sg ts i (opTx op))) /\ Only [] w w', ?_, fun w2 hO2 => (erow_c w2 _).mono ?_⟩
   · rintro _ w1 ⟨rfl, hO1⟩
     refine ⟨fun hb => ⟨?_, hO1⟩, fun hb => ⟨m, by omega, op + 1, by omega, by omega, by rw [wr' (by omega) (by omega)]; rfl, by omega, ?_, hO1⟩⟩
     · simp only [Bool.and_eq_true, decide_eq_true_eq, beq_iff_eq] at hb
       rw [hV, if_pos hb.2.1, if_pos ⟨hb.1, hb.2.2⟩]
     · rw [hV, show 14 - (op + 1) = m by omega]
       by_cases h0 : fc = 0
       · rw [if_pos h0, if_pos h0, if_neg]
         rintro ⟨e1, e2⟩
         rw [decide_eq_true e1, e2, h0] at hb
         simp at hb
       · rw [if_neg h0, if_neg h0]
   · rintro _ w3 ⟨rfl, rfl⟩
     have h3 := h.only (hO0.tr0 hO2)
     refine ⟨_, rfl, fun hk => ?_, fun hk => ?_⟩
     · have hk : rowOf (op : Int) = k := by simpa using hk
       have hn := h3.sig.len
       have hol : opsL.length = 16 := rfl
       obtain ⟨ad, x, cs, g1, g2, g3, g4, g5, g6⟩ := h3.sig.get (i := (op : Int)) (by omega) (by omega)
       unfold rTx at g6
       subst g6
       rw [Int.toNat_natCast] at g2
       have hx : opTx op = x := by unfold opTx; rw [g2]; rfl
       subst hx
       obtain ⟨s0, w4, k1, k2, k3⟩ := is1 h3 (opTx op)
       refine ⟨sn, Blk.at1 h3.blk 5 rfl, ad, g1, _, g5, s0, w4, k1, k3.mono ?_⟩
       rintro _ w5 ⟨rfl, hO5⟩
       exact ⟨_, rfl, by rw [decide_eq_true hk, Bool.true_and], hO0.tr0 (hO2.tr0 (k2.tr0 hO5))⟩
     · have hk : ¬ rowOf (op : Int) = k := by simpa using hk
       exact ⟨by rw [decide_eq_false hk, Bool.false_and], hO0.tr0 hO2⟩
 · have hc : ¬ (op : Int) <= 13 := of_decide_eq_false hc
   have : op = 14 := by omega
   subst this
   rw [hV]
   refine ⟨?_, hO0⟩
   split <;> rfl
end
abbrev exv (k n : Int) (s : List UInt8) (op : Int) (sl : Sl) (a : Int) : List Value := [.int .i64 k, .int .i64 n, .string (T s), .int .i64 op, sl.v, .int .i64 a]
inductive RXN (w : World) (N : Nat -> Prop) : Nat -> Nat -> Ex -> List Value -> Prop
 | leaf (lo hi : Nat) (k n : Int) (s : List UInt8) (op a : Int) : RXN w N lo hi (.mk k n s op [] a) (exv k n s op Sl.nil a)
 | one (lo m g hi : Nat) (k n : Int) (s : List UInt8) (op a : Int) (x : Ex) (cs : List Value) : RXN w N lo m x cs -> lo <= g -> m <= g -> g < hi -> ¬ N g -> Blk w g 24 cs -> RXN w N lo hi (.mk k n s op [x] a) (exv k n s op ⟨some ⟨g, 0, none⟩, 1, 1⟩ a)
 | two (lo m m' m2 g hi : Nat) (k n : Int) (s : List UInt8) (op a : Int) (x y : Ex) (cs ds : List Value) : RXN w N lo m x cs -> m <= m' -> RXN w N m' m2 y ds -> lo <= m' -> m <= g -> m' <= g -> m2 <= g -> g < hi -> ¬ N g -> Blk w g 24 (cs ++ ds) -> RXN w N lo hi (.mk k n s op [x, y] a) (exv k n s op ⟨some ⟨g, 0, none⟩, 2, 2⟩ a)
abbrev RX (w : World) : Nat -> Nat -> Ex -> List Value -> Prop := RXN w fun _ => False
section
variable {w w' : World} {N N' : Nat -> Prop} {lo hi : Nat} {x : Ex} {cs : List Value}
theorem RXN.keep (h : RXN w N lo hi x cs) : (∀ k, lo <= k -> k < hi -> ¬ N k -> k < w.heap.size -> w'.heap[k]? = w.heap[k]?) -> RXN w' N lo hi x cs := by
 induction h with
 | leaf lo hi k n s op a => exact fun _ => .leaf ..
 | one lo m g hi k n s op a x cs h1 h2 h3 h4 hn h5 ih =>
  intro hk
  exact .one lo m g hi k n s op a x cs (ih fun j h6 h7 h8 => hk j h6 (by omega) h8) h2 h3 h4 hn ((hk g h2 h4 hn h5.lt).trans h5)
 | two lo m m' m2 g hi k n s op a x y cs ds h1 h2 h3 h4 h5 h6 h7 h8 hn h9 ih1 ih2 =>
  intro hk
  exact .two lo m m' m2 g hi k n s op a x y cs ds (ih1 fun j a1 a2 a3 => hk j a1 (by omega) a3) h2 (ih2 fun j a1 a2 a3 => hk j (by omega) (by omega) a3) h4 h5 h6 h7 h8 hn ((hk g (by omega) h8 hn h9.lt).trans h9)
theorem RXN.wide (h : RXN w N lo hi x cs) : ∀ {lo' hi' : Nat}, lo' <= lo -> hi <= hi' -> RXN w N lo' hi' x cs := by
 induction h with
 | leaf lo hi k n s op a => exact fun _ _ => .leaf ..
 | one lo m g hi k n s op a x cs h1 h2 h3 h4 hn h5 ih =>
  intro lo' hi' a1 a2
  exact .one lo' m g hi' k n s op a x cs (ih a1 (Nat.le_refl _)) (by omega) h3 (by omega) hn h5
 | two lo m m' m2 g hi k n s op a x y cs ds h1 h2 h3 h4 h5 h6 h7 h8 hn h9 ih1 ih2 =>
  intro lo' hi' a1 a2
  exact .two lo' m m' m2 g hi' k n s op a x y cs ds (ih1 a1 (Nat.le_refl _)) h2 h3 (by omega) h5 h6 h7 (by omega) hn h9
theorem RXN.holes (h : RXN w N lo hi x cs) : (∀ k, lo <= k -> k < hi -> ¬ N k -> ¬ N' k) -> RXN w N' lo hi x cs := by
 induction h with
 | leaf lo hi k n s op a => exact fun _ => .leaf ..
 | one lo m g hi k n s op a x cs h1 h2 h3 h4 hn h5 ih =>
  intro hk
  exact .one lo m g hi k n s op a x cs (ih fun j h6 h7 => hk j h6 (by omega)) h2 h3 h4 (hk g h2 h4 hn) h5
 | two lo m m' m2 g hi k n s op a x y cs ds h1 h2 h3 h4 h5 h6 h7 h8 hn h9 ih1 ih2 =>
  intro hk
  exact .two lo m m' m2 g hi k n s op a x y cs ds (ih1 fun j a1 a2 => hk j a1 (by omega)) h2 (ih2 fun j a1 a2 => hk j (by omega) (by omega)) h4 h5 h6 h7 h8 (hk g (by omega) h8 hn) h9
theorem RXN.cells (h : RXN w N lo hi x cs) : ∃ sl : Sl, cs = exv x.k x.n x.s x.op sl x.a /\ (sl.n = x.subs.length) := by
 cases h with
 | leaf => exact ⟨_, rfl, rfl⟩
 | one => exact ⟨_, rfl, rfl⟩
 | two => exact ⟨_, rfl, rfl⟩
theorem RXN.only (h : RXN w N lo hi x cs) {bs : List Nat} (hO : Only bs w w') (hb : ∀ k, k ∈ bs -> k < lo ∨ hi <= k ∨ N k) : RXN w' N lo hi x cs :=
 h.keep fun k h1 h2 hn h3 => hO.block k h3 fun hm => by
  rcases hb k hm with e | e | e
  · omega
  · omega
  · exact hn e
end
theorem buildX (w : World) (vs : List (List Value)) (hv : ∀ v, v ∈ vs -> v.length = 6) (h0 : 0 < vs.length) (hm : vs.length <= 100) {parts : Array (Nat × Value)} (hp : parts = (((vs.map fun v => Value.agg v.toArray).zipIdx 0).map fun x => (x.2, x.1)).toArray) :
  ∃ w', (Instr.buildSlice 22 vs.length parts).run Tryz.prog w = .ok (Sl.v ⟨some ⟨w.heap.size, 0, none⟩, vs.length, vs.length⟩) w' /\ Blk w' w.heap.size 24 vs.flatten /\ Only [] w w' := by
 have hc : ((vs.map fun v => Value.agg v.toArray).flatMap fun v => v.cells.toList) = vs.flatten := by
  clear hv h0 hm hp
  induction vs with
  | nil => rfl
  | cons v vs ih => rw [List.map_cons, List.flatMap_cons, ih, List.flatten_cons]; rfl
 have hs : Tryz.t24.size = 6 := rfl
 have hrun := run_buildSlice (P := Tryz.prog) w 22 24 vs.length parts ((vs.map fun v => Value.agg v.toArray).flatMap fun v => v.cells.toList).toArray Tryz.t24 _ (by kernel_rfl) (by kernel_rfl) rfl (by rw [hs]; omega) (by rw [hs]; omega)
  (by
   subst hp
   rw [List.toList_toArray, hs]
   refine Go.Great.fill_whole (s := 6) (by decide) (vs.map fun v => Value.agg v.toArray) _ (fun v hm => ?_) ?_
   · obtain ⟨x, hx, rfl⟩ := List.mem_map.1 hm
     have := hv x hx
     simpa [Value.cells] using this
   · simp)
 rw [hc] at hrun
 exact ⟨_, hrun, Blk.alloc w _ _, Only.alloc _ _⟩
def exT (v : Value) : Prop := ∃ (k n : Int) (s : List UInt8) (op : Int) (sl : Sl) (a : Int), v = .agg (exv k n s op sl a).toArray
def Did5 (F G : Nat -> Prop) (ts : List Tk) (w w' : World) (b : Nat) (l sn : Sl) (d : Nat) (r : Pr) (v : Value) : Prop := Only [b] w w' /\ match r with
 | .ok (x, j) => ∃ cs, v = .agg cs.toArray /\ RX w' w.heap.size w'.heap.size x cs /\ Rd F G ts w' b l sn j 0 0 (d : Int)
 | .error e => e.1 ≠ 0 /\ exT v /\ ∃ j, Rd F G ts w' b l sn j e.1 e.2 (d : Int)
section
variable {F G : Nat -> Prop} {ts : List Tk} {w w' : World} {b : Nat} {l sn : Sl} {i : Nat} {fc fa d : Int}
theorem wrongF_ne : (wrongF ts i).1 ≠ 0 := by
 unfold wrongF
 dsimp only
 split <;> decide
theorem within_c {d : Nat} (hd : d <= 20) (h : Rd F G ts w b l sn i 0 0 (d : Int)) (hi : i + 1 < ts.length) {g : Nat} {z1 z2 : List Value} (hg : ∀ (x : Array Value) (w : World), (callFunc g x).run Tryz.prog w = .ok (.enter g x) w) (f : OV) (hf : f.v = .func (.func g) z1.toArray z2.toArray) {r : Pr}
    (hr : d ≠ 20 -> ∀ w1, Only [b] w w1 -> Rd F G ts w1 b l sn (i + 1) 0 0 ((d + 1 : Nat) : Int) -> Calls Tryz.prog g (z1 ++ z2).toArray w1 fun e w' => ∃ v, e = .returned v /\ Did5 F G ts w1 w' b l sn (d + 1) r v) :
    Calls Tryz.prog 75 #[.pointer (some ⟨b, 0, none⟩), f.v] w fun e w' => ∃ v, e = .returned v /\ Did5 F G ts w w' b l sn d (nestR d (tk ts i).a r) v := by
  refine v29w ⟨b, 0, none⟩ f (fun v w' => Did5 F G ts w w' b l sn d (nestR d (tk ts i).a r) v) w ?_
  unfold v29v
  intro k0 w0 hk hk' hO0
  have hb := h.lb
  have h0 := h.only hO0
  refine ⟨(d : Int), Blk.at1 h0.blk 4 rfl, fun hc => (stop_c h0 21).mono ?_, fun hc => ?_⟩
  · have hc : d = 20 := by have : (d : Int) = 20 := by simpa using hc
                           omega
    rintro _ w1 ⟨rfl, hO1, hR⟩
    rw [if_pos rfl, if_pos rfl] at hR
    have z1 := hO1.size
    refine ⟨rfl, hO1.same (by simp; omega), fun w2 hO2 => ⟨?_, ?_⟩⟩
    · exact ((hO0.weaken (bs' := [b]) fun _ h => (by cases h)).trans hO1 fun x hx => .inl hx).new hO2 hk
    · rw [nestR, if_pos hc]
      exact ⟨(by decide : (21 : Int) ≠ 0), ⟨0, 0, [], 0, Sl.nil, 0, rfl⟩, i, hR.own hO2 (by simp; omega)⟩
  · have hc : d ≠ 20 := fun e => by subst e; simp at hc
    have hbg := h.big
    refine ⟨(i : Int), Blk.at1 h0.blk 1 rfl, b, 1, _, _, rfl, h0.blk, by simp, by omega, fun w3 hO3 hB3 => ?_⟩
    rw [wr' (by omega) (by omega)] at hB3
    have h3 : Rd F G ts w3 b l sn (i + 1) 0 0 (d : Int) := h0.turn hO3 hB3 hi
    have z3 := hO3.size
    refine ⟨(d : Int), Blk.at1 h3.blk 4 rfl, b, 4, _, _, rfl, h3.blk, by simp, by omega, fun w4 hO4 hB4 => ?_⟩
    rw [wr' (by omega) (by omega)] at hB4
    have h4 : Rd F G ts w4 b l sn (i + 1) 0 0 ((d + 1 : Nat) : Int) := h3.turn hO4 hB4 hi
    have z4 := hO4.size
    have hO04 : Only [b] w w4 := ((hO0.weaken (bs' := [b]) fun _ h => (by cases h)).trans hO3 fun x hx => .inl hx).trans hO4 fun x hx => .inl hx
    refine ⟨g, z1, z2, hf, hg, ?_⟩
    have e : cat (cat z1 []) z2 = z1 ++ z2 := by unfold cat; rw [List.append_nil]
    rw [e]
    refine (hr hc w4 hO04 h4).mono ?_
    rintro _ w6 ⟨v, rfl, hO6, hd⟩
    have z6 := hO6.size
    rw [nestR, if_neg hc]
    have hv : ∃ (k n : Int) (s : List UInt8) (op : Int) (sl : Sl) (a : Int), v = .agg (exv k n s op sl a).toArray := by
      cases r with
      | error e => exact hd.2.1
      | ok q =>
        obtain ⟨cs, rfl, hx, _⟩ := hd
        obtain ⟨sl, rfl, _⟩ := hx.cells
        exact ⟨_, _, _, _, _, _, rfl⟩
    obtain ⟨vk, vn, vs, vo, vsl, va, rfl⟩ := hv
    refine ⟨_, _, _, _, _, _, rfl, hO6.same (by simp; omega), fun k8 w7 hk8 hk8' hO7 => ?_⟩
    have z7 := hO7.size
    have key : ∀ {j : Nat} {fc fa : Int}, Rd F G ts w6 b l sn j fc fa ((d + 1 : Nat) : Int) -> ∃ i7 : Int, Cells w7 (Addr.add ⟨b, 0, none⟩ 4) [.int .i64 i7] /\ ∃ k9 k10 : Nat, ∃ z4 : List Value, ∃ k11 : Nat, (Addr.add ⟨b, 0, none⟩ 4) = ⟨k9, k10, none⟩ /\ Blk w7 k9 k11 z4 /\ (k10 + 1) <= z4.length /\ k0 ≠ k9 /\ k8 ≠ k9 /\
        ∀ w8 : World, Only [k9] w7 w8 -> Blk w8 k9 k11 (splice z4 k10 [.int .i64 (IntKind.wrap .i64 (i7 - 1))]) -> ∀ w9 : World, Only [k0] w8 w9 -> Only [b] w w9 /\ Only [b, k0] w6 w9 /\ Rd F G ts w9 b l sn j fc fa (d : Int) := fun {j fc fa} h6 => by
      have h7 := h6.only hO7
      refine ⟨((d + 1 : Nat) : Int), Blk.at1 h7.blk 4 rfl, b, 4, _, _, rfl, h7.blk, by simp, by omega, by omega, fun w8 hO8 hB8 w9 hO9 => ?_⟩
      have ed : ((d + 1 : Nat) : Int) - 1 = d := by omega
      rw [ed, wr' (by omega) (by omega)] at hB8
      have h8 : Rd F G ts w8 b l sn j fc fa (d : Int) := h7.turn hO8 hB8 h7.lt
      have hO69 : Only [b, k0] w6 w9 := ((hO7.weaken (bs' := [b, k0]) fun _ h => (by cases h)).trans hO8 fun x hx => .inl (by simp only [List.mem_singleton] at hx; simp [hx])).trans hO9 fun x hx => .inl (by simp only [List.mem_singleton] at hx; simp [hx])
      exact ⟨(hO04.trans hO6 fun x hx => .inl hx).trans hO69 (fun x hx => by
        simp only [List.mem_cons, List.not_mem_nil, or_false] at hx
        rcases hx with rfl | rfl
        · exact .inl (by simp)
        · exact .inr hk), hO69, h8.own hO9 (by simp; omega)⟩
    have hd2 := hd
    cases r with
    | error e =>
      obtain ⟨h1, h2, j, h3⟩ := hd2
      obtain ⟨i7, k1, k9, k10, z, k11, k2, k3, k4, k5, k6, k7⟩ := key h3
      refine ⟨i7, k1, k9, k10, z, k11, k2, k3, k4, k5, k6, fun w8 hO8 hB8 w9 hO9 => ?_⟩
      obtain ⟨a1, a2, a3⟩ := k7 w8 hO8 hB8 w9 hO9
      exact ⟨a1, h1, h2, j, a3⟩
    | ok q =>
      obtain ⟨x, j⟩ := q
      obtain ⟨cs, h1, h2, h3⟩ := hd2
      obtain ⟨i7, k1, k9, k10, z, k11, k2, k3, k4, k5, k6, k7⟩ := key h3
      refine ⟨i7, k1, k9, k10, z, k11, k2, k3, k4, k5, k6, fun w8 hO8 hB8 w9 hO9 => ?_⟩
      obtain ⟨a1, a2, a3⟩ := k7 w8 hO8 hB8 w9 hO9
      have z9 := a2.size
      exact ⟨a1, cs, h1, (h2.only a2 fun k hk => .inl (by simp only [List.mem_cons, List.not_mem_nil, or_false] at hk; omega)).wide (by omega) z9, a3⟩
end
section
variable {F G : Nat -> Prop} {ts : List Tk} {w w' : World} {b : Nat} {l sn : Sl} {i : Nat} {fc fa d : Int}
theorem Did5.typed {w w' : World} {d : Nat} {r : Pr} {v : Value} (h : Did5 F G ts w w' b l sn d r v) : exT v := by
 obtain ⟨_, h⟩ := h
 cases r with
 | error e => exact h.2.1
 | ok q =>
  obtain ⟨cs, rfl, hx, _⟩ := h
  obtain ⟨sl, rfl, _⟩ := hx.cells
  exact ⟨_, _, _, _, _, _, rfl⟩
theorem Did5.around {w0 w1 w2 w3 : World} {d : Nat} {r : Pr} {v : Value} (h : Did5 F G ts w1 w2 b l sn d r v) (hO0 : Only [b] w0 w1) {bs : List Nat} (hO2 : Only bs w2 w3) (hb : ∀ x, x ∈ bs -> b < x /\ w0.heap.size <= x /\ x < w1.heap.size) : Did5 F G ts w0 w3 b l sn d r v := by
 obtain ⟨hO, h⟩ := h
 have z0 := hO0.size
 have z1 := hO.size
 have z2 := hO2.size
 refine ⟨(hO0.trans hO fun x hx => .inl hx).trans hO2 fun x hx => .inr (hb x hx).2.1, ?_⟩
 cases r with
 | error e =>
  obtain ⟨h1, h2, j, h3⟩ := h
  exact ⟨h1, h2, j, h3.own hO2 fun x hx => (hb x hx).1⟩
 | ok q =>
  obtain ⟨cs, h1, h2, h3⟩ := h
  exact ⟨cs, h1, (h2.only hO2 fun x hx => .inl (hb x hx).2.2).wide z0 z2, h3.own hO2 fun x hx => (hb x hx).1⟩
theorem par_c {d : Nat} {r : Pr} {k0 : Nat} (h : Rd F G ts w b l sn i 0 0 (d : Int)) (hk : b < k0) (hB : Blk w k0 80 [.pointer (some ⟨b, 0, none⟩)])
  (hE : ∀ w1, Only [] w w1 -> Calls Tryz.prog 36 #[.pointer (some ⟨b, 0, none⟩), .int .i64 0] w1 fun e w' => ∃ v, e = .returned v /\ Did5 F G ts w1 w' b l sn d r v) :
  Calls Tryz.prog 76 #[.pointer (some ⟨k0, 0, none⟩)] w fun e w' => ∃ v, e = .returned v /\ Did5 F G ts w w' b l sn d (parR ts r) v := by
 refine v26w ⟨k0, 0, none⟩ (fun v w' => Did5 F G ts w w' b l sn d (parR ts r) v) w ?_
 unfold v26v
 intro k1 w0 hk1 hk1' hO0
 have hb := h.lb
 have hB0 : Blk w0 k0 80 [.pointer (some ⟨b, 0, none⟩)] := hO0.blk hB (by simp)
 have hkl := hB.lt
 refine ⟨_, Blk.at1 hB0 0 rfl, (hE w0 hO0).mono ?_⟩
 rintro _ w1 ⟨v, rfl, hd⟩
 obtain ⟨k, n, s, op, sl, a, rfl⟩ := hd.typed
 have z1 := hd.1.size
 refine ⟨_, _, _, _, _, _, rfl, hd.1.same (by simp; omega), fun k2 w2 hk2 hk2' hO2 => ?_⟩
 have z2 := hO2.size
 have hB2 : Blk w2 k0 80 [.pointer (some ⟨b, 0, none⟩)] := hO2.blk (hd.1.blk hB0 (by simp; omega)) (by simp)
 refine ⟨_, Blk.at1 hB2 0 rfl, _, rfl, ?_⟩
 obtain ⟨hO1, hd⟩ := hd
 have hO02 : Only [b] w w2 := ((hO0.weaken fun _ h => (by cases h)).trans hO1 fun x hx => .inl hx).tr0 hO2
 cases r with
 | error e =>
  obtain ⟨h1, h2, j, h3⟩ := hd
  have h3 := h3.only hO2
  refine (must_c h3 [41]).mono ?_
  rintro _ w3 ⟨rfl, hO3, hR⟩
  rw [if_neg (by simp [h1]), if_neg h1, if_neg h1] at hR
  refine ⟨rfl, hO3.same (by simp; omega), fun w4 hO4 => ⟨((hO02.trans hO3 fun x hx => .inl hx).new hO4 hk1), h1, ⟨_, _, _, _, _, _, rfl⟩, j, hR.own hO4 (by simp; omega)⟩⟩
 | ok q =>
  obtain ⟨x, j⟩ := q
  obtain ⟨cs, h1, h2, h3⟩ := hd
  have h3 := h3.only hO2
  refine (must_c h3 [41]).mono ?_
  rintro _ w3 ⟨rfl, hO3, hR⟩
  have z3 := hO3.size
  refine ⟨rfl, hO3.same (by simp; omega), fun w4 hO4 => ⟨((hO02.trans hO3 fun x hx => .inl hx).new hO4 hk1), ?_⟩⟩
  have z4 := hO4.size
  by_cases hs : sg ts j [41] = true
  · rw [if_pos (by simp [hs])] at hR
    simp only [parR, hs, if_true]
    exact ⟨cs, h1, (((h2.only hO2 (by simp)).only hO3 fun k hk => .inl (by simp only [List.mem_singleton] at hk; omega)).only hO4 fun k hk => .inl (by simp only [List.mem_singleton] at hk; omega)).wide (by omega) (by omega), hR.own hO4 (by simp; omega)⟩
  · rw [if_neg (by simp [hs]), if_pos rfl, if_pos rfl] at hR
    simp only [parR, hs, if_false]
    exact ⟨wrongF_ne, ⟨_, _, _, _, _, _, rfl⟩, j, hR.own hO4 (by simp; omega)⟩
theorem eone_c {f d : Nat} (hd : d <= 20) (h : Rd F G ts w b l sn i 0 0 (d : Int))
  (hE : d ≠ 20 -> ∀ w i, Rd F G ts w b l sn i 0 0 ((d + 1 : Nat) : Int) -> Calls Tryz.prog 36 #[.pointer (some ⟨b, 0, none⟩), .int .i64 0] w fun e w' => ∃ v, e = .returned v /\ Did5 F G ts w w' b l sn (d + 1) (exprR ts f 0 (d + 1) i) v)
  (hOne : d ≠ 20 -> ∀ w i, Rd F G ts w b l sn i 0 0 ((d + 1 : Nat) : Int) -> Calls Tryz.prog 54 #[.pointer (some ⟨b, 0, none⟩)] w fun e w' => ∃ v, e = .returned v /\ Did5 F G ts w w' b l sn (d + 1) (exprR ts f 6 (d + 1) i) v) :
  Calls Tryz.prog 54 #[.pointer (some ⟨b, 0, none⟩)] w fun e w' => ∃ v, e = .returned v /\ Did5 F G ts w w' b l sn d (exprR ts (f + 1) 6 d i) v := by
 have eR : exprR ts (f + 1) 6 d i = oneR ts (exprR ts f 0 (d + 1)) (exprR ts f 6 (d + 1)) d i := by rw [exprR, if_pos rfl]
 rw [eR]
 generalize hgE : exprR ts f 0 (d + 1) = E0 at *
 generalize hgO : exprR ts f 6 (d + 1) = One at *
 generalize hR : oneR ts E0 One d i = R
 rw [oneR] at hR
 refine v27w ⟨b, 0, none⟩ (fun v w' => Did5 F G ts w w' b l sn d R v) w ?_
 unfold v27v
 intro k0 k1 w0 hk0 hk0' hk1 hk1' hO0
 have hb := h.lb
 refine (now_c (h.only hO0)).mono ?_
 rintro _ w1 ⟨rfl, hO1⟩
 have z1 := hO1.size
 have hO01 := hO0.tr0 hO1
 refine ⟨_, _, _, _, rfl, hO1.same (by simp; omega), fun k2 k3 w2 hk2 hk2' hk3 hk3' hO2 => ?_⟩
 have z2 := hO2.size
 have z0 := hO0.size
 have hO02 := hO01.tr0 hO2
 have h2 := h.only hO02
 have hbg := h.big
 have sm : ∀ {u u' : World}, w2.heap.size <= u.heap.size -> Only [b] u u' -> Same [k0, k1, k2, k3] u u' := fun hu hO => hO.same (by intro x hx; simp only [List.mem_cons, List.not_mem_nil, or_false] at hx ⊢; omega)
 have sm0 : ∀ {u u' : World}, w2.heap.size <= u.heap.size -> Only [] u u' -> Same [k0, k1, k2, k3] u u' := fun hu hO => hO.same (by intro x hx; simp only [List.mem_cons, List.not_mem_nil, or_false] at hx; exact ⟨by omega, by simp⟩)
 refine ⟨fun q _ _ _ _ _ _ vk vn vs vo vl va w' => q = some ⟨b, 0, none⟩ /\ Only [] w w' /\ (tk ts i).k ≠ 5 /\ ∃ t, vs = T t /\ vl = Sl.nil /\ R = .ok (.mk vk vn t vo [] va, i + 1), ?_, ?_⟩
 · rintro _ _ _ _ _ _ _ vk vn _ vo _ va w3 ⟨rfl, hO3, hne, t, rfl, rfl, hRe⟩
   have h3 := h.only hO3
   have hn := h.en.next h.lt hne
   refine ⟨_, rfl, (i : Int), Blk.at1 h3.blk 1 rfl, _, rfl, b, 1, _, _, rfl, h3.blk, by simp, by omega, by omega, by omega, by omega, fun w4 hO4 hB4 w5 hO5 => ?_⟩
   rw [wr' (by omega) (by omega)] at hB4
   have h4 : Rd F G ts w4 b l sn (i + 1) 0 0 (d : Int) := h3.turn hO4 hB4 hn
   rw [hRe]
   refine ⟨((hO3.weaken (bs' := [b]) fun _ h => (by cases h)).trans hO4 fun x hx => .inl hx).new hO5 (by omega), _, rfl, .leaf .., h4.own hO5 (by simp; omega)⟩
 refine (bad_c h2).mono ?_
 rintro _ w6 ⟨rfl, hO6⟩
 have z6 := hO6.size
 have h6 := h2.only hO6
 refine ⟨_, rfl, sm0 (by omega) hO6, fun hc => (by simp at hc), fun _ => ?_⟩
 obtain ⟨s8, w8, k8, hO8, hc8⟩ := is2 h6
 have z8 := hO8.size
 refine ⟨s8, w8, k8, sm0 (by omega) hO8, hc8.mono ?_⟩
 rintro _ w9 ⟨rfl, hO9⟩
 have z9 := hO9.size
 have hO29 := hO6.tr0 (hO8.tr0 hO9)
 have h9 := h2.only hO29
 rw [show ((0 : Int) == 0) = true from rfl, Bool.true_and]
 have hO09 := hO02.tr0 hO29
 refine ⟨_, rfl, sm0 (by omega) hO9, fun hc w10 hO10 => ?_, fun hc => ?_⟩
 · rw [if_pos hc] at hR
   have hne : (tk ts i).k ≠ 5 := by
    rcases Bool.or_eq_true _ _ ▸ hc with e | e <;> exact sg_k e
   have hn := h.en.next h.lt hne
   have key : ∀ op : Int, op = (if (tk ts i).t = [33] then 15 else 14) -> ∀ w11, Only [] w w11 -> w2.heap.size <= w11.heap.size -> _ := fun op hop w11 hO11 hz11 => within_c hd (h.only hO11) hn (g := 54) (z1 := [.pointer (some ⟨b, 0, none⟩)]) (z2 := []) (fnOk_run (by kernel_rfl)) ⟨.func (.func 54) #[.pointer (some ⟨b, 0, none⟩)] #[], rfl⟩ rfl (r := One (i + 1)) fun hd20 w1 _ h1 => hOne hd20 w1 (i + 1) h1
   refine ⟨fun k n s op sl a w' => k = 4 /\ n = 0 /\ s = T [] /\ op = (if (tk ts i).t = [33] then 15 else 14) /\ sl = Sl.nil /\ a = (tk ts i).a /\ Only [] w w' /\ w2.heap.size <= w'.heap.size, ?_, ?_, ?_⟩
   · rintro _ _ _ _ _ _ w11 ⟨rfl, rfl, rfl, hop, rfl, rfl, hO11, hz11⟩
     refine (key _ hop w11 hO11 hz11).mono ?_
     rintro _ w12 ⟨v, rfl, hD⟩
     obtain ⟨vk, vn, vs, vo, vl, va, rfl⟩ := hD.typed
     have z12 := hD.1.size
     obtain ⟨w13, k13, hB13, hO13⟩ := buildX w12 [exv vk vn vs vo vl va] (by simp) (by simp) (by simp) (parts := #[(0, .agg (exv vk vn vs vo vl va).toArray)]) rfl
     refine ⟨_, _, _, _, _, _, rfl, sm hz11 hD.1, ⟨some ⟨w12.heap.size, 0, none⟩, 1, 1⟩, w13, k13, sm0 (by omega) hO13, fun w14 hO14 => ?_⟩
     have z13 := hO13.size
     have z14 := hO14.size
     have hOf : Only [b] w w14 := (((hO11.weaken (bs' := [b]) fun _ h => (by cases h)).trans hD.1 fun x hx => .inl hx).tr0 hO13).trans hO14 fun x hx => .inr (by simp only [List.mem_cons, List.not_mem_nil, or_false] at hx; omega)
     have hob : ∀ x, x ∈ [k1, k3] -> b < x := by simp; omega
     have hoo : ∀ x, x ∈ [k1, k3] -> x < w11.heap.size := by simp; omega
     refine ⟨hOf, ?_⟩
     obtain ⟨_, hD⟩ := hD
     rw [<- hR]
     cases hN : nestR d (tk ts i).a (One (i + 1)) with
     | error e =>
      rw [hN] at hD
      obtain ⟨a1, a2, j, a3⟩ := hD
      exact ⟨a1, ⟨_, _, _, _, _, _, rfl⟩, j, (a3.only hO13).own hO14 hob⟩
     | ok q =>
      obtain ⟨x, j⟩ := q
      rw [hN] at hD
      obtain ⟨cs, a1, a2, a3⟩ := hD
      refine ⟨_, rfl, ?_, (a3.only hO13).own hO14 hob⟩
      have hcs : (exv vk vn vs vo vl va) = cs := congrArg Array.toList (Value.agg.inj a1)
      rw [hop]
      have hx14 : RX w14 w11.heap.size w12.heap.size x cs := (a2.only hO13 (by simp)).only hO14 fun k hk => .inl (hoo k hk)
      have hB14 : Blk w14 w12.heap.size 24 cs := by
       have := hO14.blk hB13 fun hm => by have := hoo _ hm; omega
       rw [List.flatten_cons, List.flatten_nil, List.append_nil] at this
       rw [<- hcs]; exact this
      exact .one w.heap.size w12.heap.size w12.heap.size _ _ _ _ _ _ x cs (hx14.wide (by omega) (Nat.le_refl _)) (by omega) (Nat.le_refl _) (by have := hB13.lt; omega) id hB14
   · rw [show (ByteArray.mk #[33]) = T [33] from rfl, T_eq]
     intro he w15 hO15
     have he := of_decide_eq_true he
     exact ⟨rfl, rfl, rfl, by rw [if_pos he], rfl, rfl, (hO09.new hO10 (by omega)).new hO15 (by omega), by have := hO15.size; have := hO10.size; omega⟩
   · rw [show (ByteArray.mk #[33]) = T [33] from rfl, T_eq]
     intro he
     have he := of_decide_eq_false he
     exact ⟨rfl, rfl, rfl, by rw [if_neg he], rfl, rfl, hO09.new hO10 (by omega), by have := hO10.size; omega⟩
 · rw [if_neg (by rw [hc]; decide)] at hR
   obtain ⟨s16, w16, k16, hO16, hc16⟩ := is1 h9 [40]
   have z16 := hO16.size
   refine ⟨s16, w16, k16, sm0 (by omega) hO16, hc16.mono ?_⟩
   rintro _ w17 ⟨rfl, hO17⟩
   have z17 := hO17.size
   have hO017 := hO09.tr0 (hO16.tr0 hO17)
   have h17 := h.only hO017
   have hO017b : Only [b] w w17 := hO017.weaken fun _ h => (by cases h)
   rw [show ((0 : Int) == 0) = true from rfl, Bool.true_and]
   refine ⟨_, rfl, sm0 (by omega) hO17, fun hp hB _ _ _ => ?_, fun hp => ?_⟩
   · rw [if_pos hp] at hR
     have hn := h.en.next h.lt (sg_k hp)
     subst hR
     refine (within_c hd h17 hn (g := 76) (z1 := []) (z2 := [.pointer (some ⟨k0, 0, none⟩)]) (fnOk_run (by kernel_rfl)) ⟨.func (.func 76) #[] #[.pointer (some ⟨k0, 0, none⟩)], rfl⟩ rfl (r := parR ts (E0 (i + 1))) fun hd20 w1 hO1 h1 => par_c h1 (by omega) (hO1.blk hB (by simp; omega)) fun w1' hO1' => hE hd20 w1' (i + 1) (h1.only hO1')).mono ?_
     rintro _ w18 ⟨v, rfl, hD⟩
     obtain ⟨vk, vn, vs, vo, vl, va, rfl⟩ := hD.typed
     have z18 := hD.1.size
     refine ⟨_, _, _, _, _, _, rfl, hD.1.same (by simp; omega), _, hD.1.blk hB (by simp; omega), fun w19 hO19 _ => ?_⟩
     exact hD.around hO017b hO19 (by simp; omega)
   rw [if_neg (by rw [hp]; decide)] at hR
   have hp' : (tk ts i).k ≠ 5 -> i + 1 < ts.length := h.en.next h.lt
   refine ⟨fun hi w20 hO20 _ _ _ _ _ hne => ⟨fun k => k = k2, rfl, fun e => hne e.symm, fun e => hne e.symm, fun w21 hO21 => ?_⟩, fun hi => ⟨fun hv w22 hO22 _ _ _ _ _ hne => ⟨fun k => k = k2, rfl, fun e => hne e.symm, fun e => hne e.symm, fun w23 hO23 => ?_⟩, fun hv => ⟨fun hw => ?_, fun hw => ?_⟩⟩⟩
   · have hi : (tk ts i).k = 3 := by simpa using hi
     rw [if_pos hi] at hR
     exact ⟨rfl, (hO017.tr0 hO20).new hO21 (by omega), by rw [hi]; decide, [], rfl, rfl, hR.symm⟩
   · have hi : ¬ (tk ts i).k = 3 := by simpa using hi
     have hv : (tk ts i).k = 1 := by simpa using hv
     rw [if_neg hi, if_pos hv] at hR
     exact ⟨rfl, (hO017.tr0 hO22).new hO23 (by omega), by rw [hv]; decide, _, rfl, rfl, hR.symm⟩
   · have hi : ¬ (tk ts i).k = 3 := by simpa using hi
     have hv : ¬ (tk ts i).k = 1 := by simpa using hv
     rw [show (ByteArray.mk #[105, 110]) = T [105, 110] from rfl, T_eq] at hw
     have hw : (tk ts i).k = 2 /\ (tk ts i).t = [105, 110] := by simpa using hw
     rw [if_neg hi, if_neg hv, if_pos hw] at hR
     have hn := hp' (by rw [hw.1]; decide)
     refine ⟨(i : Int), Blk.at1 h17.blk 1 rfl, b, 1, _, _, rfl, h17.blk, by simp, by omega, by omega, by omega, by omega, fun w24 hO24 hB24 => ?_⟩
     rw [wr' (by omega) (by omega)] at hB24
     have h24 : Rd F G ts w24 b l sn (i + 1) 0 0 (d : Int) := h17.turn hO24 hB24 hn
     have z24 := hO24.size
     refine (must_c h24 [40]).mono ?_
     rintro _ w25 ⟨rfl, hO25, hR25⟩
     have z25 := hO25.size
     refine ⟨rfl, sm (by omega) hO25, ?_⟩
     have hO025 : Only [b] w w25 := (hO017b.trans hO24 fun x hx => .inl hx).trans hO25 fun x hx => .inl hx
     have bad : ∀ {j : Nat} {c a : Int}, Rd F G ts w25 b l sn j c a (d : Int) -> c ≠ 0 -> Calls Tryz.prog 78 #[.pointer (some ⟨b, 0, none⟩)] w25 fun e w' => e = .returned (.string (T [])) /\ Only [b] w25 w' /\ Rd F G ts w' b l sn j c a (d : Int) := fun {j c a} h25 hc => by
      refine (name'_c h25).mono ?_
      rintro e w26 ⟨hO26, hh⟩
      rw [if_neg (fun hh => hc hh.1), if_neg hc, if_neg hc] at hh
      exact ⟨hh.1, hO26, hh.2⟩
     have badm : ∀ {w26 w27 : World} {j : Nat} {c a : Int}, Only [b] w25 w26 -> Only [k3] w26 w27 -> Rd F G ts w26 b l sn j c a (d : Int) -> c ≠ 0 -> R = .error (c, a) -> ∀ s6 : ByteArray, Calls Tryz.prog 77 #[.pointer (some (Addr.add ⟨b, 0, none⟩ 0)), .string (ByteArray.mk #[41])] w27 fun e8 w28 => e8 = (.returned (.tuple #[])) /\ Same [k0, k1, k2, k3] w27 w28 /\ ∀ w29 : World, Only [k1] w28 w29 -> Did5 F G ts w w29 b l sn d R (.agg #[.int .i64 3, .int .i64 0, .string s6, .int .i64 0, Sl.nil.v, .int .i64 (tk ts i).a]) := fun {w26 w27 j c a} hO26 hO27 h26 hc hRe s6 => by
      have z26 := hO26.size
      have z27 := hO27.size
      refine (must_c (h26.own hO27 (by simp; omega)) [41]).mono ?_
      rintro _ w28 ⟨rfl, hO28, hR28⟩
      rw [if_neg (by simp [hc]), if_neg hc, if_neg hc] at hR28
      refine ⟨rfl, sm (by omega) hO28, fun w29 hO29 => ?_⟩
      rw [hRe]
      refine ⟨((((hO025.trans hO26 fun x hx => .inl hx).new hO27 (by omega)).trans hO28 fun x hx => .inl hx).new hO29 (by omega)), hc, ⟨3, 0, s6.data.toList, 0, Sl.nil, _, by unfold exv; rw [<- T_of]⟩, j, hR28.own hO29 (by simp; omega)⟩
     by_cases h1 : sg ts (i + 1) [40] = true
     · rw [if_pos (by simp [h1])] at hR25
       rw [inR, if_pos h1] at hR
       refine (name'_c hR25).mono ?_
       rintro _ w26 ⟨hO26, hh⟩
       have z26 := hO26.size
       by_cases h2 : (tk ts (i + 2)).k = 1
       · rw [if_pos ⟨rfl, h2⟩] at hh
         obtain ⟨rfl, hR26⟩ := hh
         rw [if_pos h2] at hR
         refine ⟨_, rfl, sm (by omega) hO26, fun w27 hO27 => ?_⟩
         have z27 := hO27.size
         have h27 := hR26.own hO27 (by simp; omega)
         refine (must_c h27 [41]).mono ?_
         rintro _ w28 ⟨rfl, hO28, hR28⟩
         refine ⟨rfl, sm (by omega) hO28, fun w29 hO29 => ?_⟩
         have hOf : Only [b] w w29 := (((hO025.trans hO26 fun x hx => .inl hx).new hO27 (by omega)).trans hO28 fun x hx => .inl hx).new hO29 (by omega)
         refine ⟨hOf, ?_⟩
         by_cases h3 : sg ts (i + 3) [41] = true
         · rw [if_pos (by simp [h3])] at hR28
           rw [if_pos h3] at hR
           rw [<- hR]
           exact ⟨_, rfl, .leaf .., hR28.own hO29 (by simp; omega)⟩
         · rw [if_neg (by simp [h3]), if_pos rfl, if_pos rfl] at hR28
           rw [if_neg h3] at hR
           rw [<- hR]
           exact ⟨wrongF_ne, ⟨_, _, _, _, _, _, rfl⟩, _, hR28.own hO29 (by simp; omega)⟩
       · rw [if_neg (fun hh => h2 hh.2), if_pos rfl, if_pos rfl] at hh
         obtain ⟨rfl, hR26⟩ := hh
         rw [if_neg h2] at hR
         exact ⟨_, rfl, sm (by omega) hO26, fun w27 hO27 => badm hO26 hO27 hR26 wrongF_ne hR.symm _⟩
     · rw [if_neg (by simp [h1]), if_pos rfl, if_pos rfl] at hR25
       rw [inR, if_neg h1] at hR
       refine (bad hR25 wrongF_ne).mono ?_
       rintro _ w26 ⟨rfl, hO26, hR26⟩
       exact ⟨_, rfl, sm (by omega) hO26, fun w27 hO27 => badm hO26 hO27 hR26 wrongF_ne hR.symm _⟩
   · have hi : ¬ (tk ts i).k = 3 := by simpa using hi
     have hv : ¬ (tk ts i).k = 1 := by simpa using hv
     rw [show (ByteArray.mk #[105, 110]) = T [105, 110] from rfl, T_eq] at hw
     rw [if_neg hi, if_neg hv, if_neg (fun hh => by rw [hh.1, hh.2] at hw; simp at hw)] at hR
     refine (wrong_c h17).mono ?_
     rintro _ w30 ⟨rfl, hO30, hR30⟩
     rw [if_pos rfl, if_pos rfl] at hR30
     refine ⟨rfl, sm (by omega) hO30, fun w31 hO31 => ⟨(hO017b.trans hO30 fun x hx => .inl hx).new hO31 (by omega), ?_⟩⟩
     rw [<- hR]
     exact ⟨wrongF_ne, ⟨0, 0, [], 0, Sl.nil, _, rfl⟩, i, hR30.own hO31 (by simp; omega)⟩
end
section
variable {F G : Nat -> Prop} {ts : List Tk} {w w' : World} {b : Nat} {l sn : Sl} {i : Nat} {fc fa d : Int}
theorem loop_zero {E : Nat -> Pr} {k : Int} {g : Nat} {x : Ex} {j : Nat} (h : opAt ts k j = 0) : loopR ts E k g x j = .ok (x, j) := by
 cases g with
 | zero => rfl
 | succ g => rw [loopR, if_pos h]
def At5 (F G : Nat -> Prop) (ts : List Tk) (w : World) (b : Nat) (l sn : Sl) (d : Nat) (N : Nat -> Prop) (E : Nat -> Pr) (k : Int) (R : Pr) (nv : Nat) (op : Int) (cs : List Value) (w' : World) : Prop := Only [b] w w' /\
  ((∃ (c a : Int) (j : Nat), op = 0 /\ c ≠ 0 /\ R = .error (c, a) /\ Rd F G ts w' b l sn j c a (d : Int)) ∨
   (∃ (x : Ex) (j : Nat), op = opAt ts k j /\ RXN w' N w.heap.size w'.heap.size x cs /\ Rd F G ts w' b l sn j 0 0 (d : Int) /\ R = loopR ts E k nv x j /\ ts.length - j <= nv))
theorem expr_step {f k d : Nat} (hk6 : k < 6) (h : Rd F G ts w b l sn i 0 0 (d : Int))
  (hE : ∀ w i, Rd F G ts w b l sn i 0 0 (d : Int) -> Calls Tryz.prog 36 #[.pointer (some ⟨b, 0, none⟩), .int .i64 ((k + 1 : Nat) : Int)] w fun e w' => ∃ v, e = .returned v /\ Did5 F G ts w w' b l sn d (exprR ts f (k + 1) d i) v) :
  Calls Tryz.prog 36 #[.pointer (some ⟨b, 0, none⟩), .int .i64 (k : Int)] w fun e w' => ∃ v, e = .returned v /\ Did5 F G ts w w' b l sn d (exprR ts (f + 1) k d i) v := by
 have eR : exprR ts (f + 1) k d i = andR (exprR ts f (k + 1) d i) fun x j => loopR ts (exprR ts f (k + 1) d) (k : Int) (ts.length - j) x j := by rw [exprR, if_neg (by omega)]
 rw [eR]
 have hmono : ∀ i x j, exprR ts f (k + 1) d i = .ok (x, j) -> i < j := fun i x j h => exprR_mono f _ _ i h
 generalize hgE : exprR ts f (k + 1) d = E at *
 generalize hR : (andR (E i) fun x j => loopR ts E (k : Int) (ts.length - j) x j) = R
 refine v24w ⟨b, 0, none⟩ _ (fun v w' => Did5 F G ts w w' b l sn d R v) w ?_
 unfold v24v
 have ek : IntKind.wrap .i64 ((k : Int) + 1) = ((k + 1 : Nat) : Int) := by rw [wr' (by omega) (by omega)]; rfl
 refine ⟨fun hc => absurd (by simpa using hc) (by omega : ¬ (k : Int) = 6), fun _ k1 w3 hk1 hk1' hO3 => ?_⟩
 have hb := h.lb
 rw [ek]
 refine (hE w3 i (h.only hO3)).mono ?_
 rintro _ w4 ⟨v, rfl, hD⟩
 obtain ⟨vk, vn, vs, vo, vl, va, rfl⟩ := hD.typed
 have z3 := hO3.size
 have z4 := hD.1.size
 refine ⟨_, _, _, _, _, _, rfl, hD.1.same (by simp; omega), fun k2 w5 hk2 hk2' hO5 => ?_⟩
 have z5 := hO5.size
 have hO05 : Only [b] w w5 := ((hO3.weaken (bs' := [b]) fun _ h => (by cases h)).trans hD.1 fun x hx => .inl hx).tr0 hO5
 have sm : ∀ {u u' : World}, w5.heap.size <= u.heap.size -> Only [b] u u' -> Same [k1, k2] u u' := fun hu hO => hO.same (by intro x hx; simp only [List.mem_cons, List.not_mem_nil, or_false] at hx ⊢; omega)
 have hbg := h.big
 have hst : ∃ (j : Nat) (c a : Int), Rd F G ts w4 b l sn j c a (d : Int) /\ ∀ w6, Only [] w4 w6 -> ∃ nv, At5 F G ts w b l sn d (fun q => q = k1 ∨ q = k2) E (k : Int) R nv (if c = 0 then opAt ts (k : Int) j else 0) (exv vk vn vs vo vl va) w6 := by
  obtain ⟨hO4, hD2⟩ := hD
  have hO04 : Only [b] w w4 := (hO3.weaken (bs' := [b]) fun _ h => (by cases h)).trans hO4 fun x hx => .inl hx
  cases hEi : E i with
  | error e =>
   rw [hEi] at hD2 hR
   obtain ⟨c, a⟩ := e
   obtain ⟨a1, a2, j, a3⟩ := hD2
   exact ⟨j, c, a, a3, fun w6 hO6 => ⟨0, hO04.tr0 hO6, .inl ⟨c, a, j, if_neg a1, a1, hR.symm, a3.only hO6⟩⟩⟩
  | ok q =>
   obtain ⟨x, j⟩ := q
   rw [hEi] at hD2 hR
   obtain ⟨cs, a1, a2, a3⟩ := hD2
   have hcs : (exv vk vn vs vo vl va) = cs := congrArg Array.toList (Value.agg.inj a1)
   rw [hcs]
   exact ⟨j, 0, 0, a3, fun w6 hO6 => ⟨ts.length - j, hO04.tr0 hO6, .inr ⟨x, j, if_pos rfl, ((a2.only hO6 (by simp)).holes fun q h1 h2 _ => (by omega)).wide z3 hO6.size, a3.only hO6, hR.symm, Nat.le_refl _⟩⟩⟩
 obtain ⟨j0, c0, a0, hR4, hst⟩ := hst
 refine (operator_c (hR4.only hO5) (k : Int)).mono ?_
 rintro _ w6 ⟨rfl, hO6⟩
 have z6 := hO6.size
 obtain ⟨nv0, hA0⟩ := hst w6 (hO5.tr0 hO6)
 refine ⟨_, rfl, hO6.same (by simp; omega), fun nv op i10 i11 s2 i12 l2 i13 w' => w5.heap.size <= w'.heap.size /\ At5 F G ts w b l sn d (fun q => q = k1 ∨ q = k2) E (k : Int) R nv op [.int .i64 i10, .int .i64 i11, .string s2, .int .i64 i12, l2.v, .int .i64 i13] w', nv0, ⟨z6, hA0⟩, ?_⟩
 rintro nv op i10 i11 s2 i12 l2 i13 w7 ⟨z7, hO7, hA⟩
 refine ⟨fun hop => ?_, fun hop w14 hO14 => ?_⟩
 · have hop : op ≠ 0 := by simpa using hop
   rcases hA with ⟨_, _, _, e, _⟩ | ⟨x, j, rfl, hX, hRd, hRe, hnv⟩
   · exact absurd e hop
   have hn := hRd.en.next hRd.lt (opFrom_sg _ _ hop)
   obtain ⟨g, rfl⟩ : ∃ g, nv = g + 1 := ⟨nv - 1, by omega⟩
   rw [loopR, if_neg hop] at hRe
   refine ⟨(j : Int), Blk.at1 hRd.blk 1 rfl, b, 1, _, _, rfl, hRd.blk, by simp, by omega, by omega, fun w8 hO8 hB8 => ?_⟩
   rw [wr' (by omega) (by omega)] at hB8
   have h8 : Rd F G ts w8 b l sn (j + 1) 0 0 (d : Int) := hRd.turn hO8 hB8 hn
   have z8 := hO8.size
   refine (hE w8 (j + 1) h8).mono ?_
   rintro _ w9 ⟨v, rfl, hD9⟩
   obtain ⟨yk, yn, ys, yo, yl, ya, rfl⟩ := hD9.typed
   have z9 := hD9.1.size
   refine ⟨_, _, _, _, _, _, rfl, sm (by omega) hD9.1, fun k8 w10 hk8 hk8' hO10 => ?_⟩
   have z10 := hO10.size
   obtain ⟨w11, k11, hB11, hO11⟩ := buildX w10 [[.int .i64 i10, .int .i64 i11, .string s2, .int .i64 i12, l2.v, .int .i64 i13], exv yk yn ys yo yl ya] (by simp) (by simp) (by simp) (parts := #[(0, .agg #[.int .i64 i10, .int .i64 i11, .string s2, .int .i64 i12, l2.v, .int .i64 i13]), (1, .agg (exv yk yn ys yo yl ya).toArray)]) rfl
   have z11 := hO11.size
   refine ⟨⟨some ⟨w10.heap.size, 0, none⟩, 2, 2⟩, w11, k11, hO11.same (by simp; omega), fun w12 hO12 => ?_⟩
   have z12 := hO12.size
   have hO012 : Only [b] w w12 := ((((hO7.trans hO8 fun x hx => .inl hx).trans hD9.1 fun x hx => .inl hx).tr0 hO10).tr0 hO11).new hO12 (by omega)
   have hO912 : Only [k2] w9 w12 := ((hO10.tr0 hO11).weaken (bs' := [k2]) fun _ h => (by cases h)).trans hO12 fun x hx => .inl hx
   have hst2 : ∃ (j' : Nat) (c a : Int), Rd F G ts w9 b l sn j' c a (d : Int) /\ ∀ w13, Only [] w12 w13 -> ∃ nv, nv < g + 1 /\ At5 F G ts w b l sn d (fun q => q = k1 ∨ q = k2) E (k : Int) R nv (if c = 0 then opAt ts (k : Int) j' else 0) (exv 5 0 [] (opAt ts (k : Int) j) ⟨some ⟨w10.heap.size, 0, none⟩, 2, 2⟩ i13) w13 := by
    obtain ⟨hO9, hD2⟩ := hD9
    cases hEi : E (j + 1) with
    | error e =>
     rw [hEi] at hD2 hRe
     obtain ⟨c, a⟩ := e
     obtain ⟨a1, a2, j', a3⟩ := hD2
     exact ⟨j', c, a, a3, fun w13 hO13 => ⟨0, by omega, hO012.tr0 hO13, .inl ⟨c, a, j', if_neg a1, a1, hRe, (a3.own hO912 (by simp; omega)).only hO13⟩⟩⟩
    | ok q =>
     obtain ⟨y, j'⟩ := q
     rw [hEi] at hD2 hRe
     obtain ⟨cs, a1, a2, a3⟩ := hD2
     have hcs : (exv yk yn ys yo yl ya) = cs := congrArg Array.toList (Value.agg.inj a1)
     have hjj := hmono _ _ _ hEi
     obtain ⟨xl, hxl, _⟩ := hX.cells
     have hxa : i13 = x.a := by
      simp only [exv, List.cons.injEq, Value.int.injEq] at hxl
      exact hxl.2.2.2.2.2.1.2
     refine ⟨j', 0, 0, a3, fun w13 hO13 => ⟨g, by omega, hO012.tr0 hO13, .inr ⟨.mk 5 0 [] (opAt ts (k : Int) j) [x, y] x.a, j', if_pos rfl, ?_, (a3.own hO912 (by simp; omega)).only hO13, hRe, ?_⟩⟩⟩
     · have z13 := hO13.size
       have hO713 : Only [b, k2] w7 w13 := (((((hO8.weaken (bs' := [b, k2]) fun x hx => .inl (by simp only [List.mem_singleton] at hx; simp [hx])).trans hO9 fun x hx => .inl (by simp only [List.mem_singleton] at hx; simp [hx])).trans hO912 fun x hx => .inl (by simp only [List.mem_singleton] at hx; simp [hx])).tr0 hO13))
       have hO913 : Only [k2] w9 w13 := hO912.tr0 hO13
       have hB13 : Blk w13 w10.heap.size 24 ([.int .i64 i10, .int .i64 i11, .string s2, .int .i64 i12, l2.v, .int .i64 i13] ++ cs) := by
        have := hO13.blk (hO12.blk hB11 (by simp; omega)) (by simp)
        rw [<- hcs]
        simpa using this
       have hx13 : RXN w13 (fun q => q = k1 ∨ q = k2) w.heap.size w7.heap.size x [.int .i64 i10, .int .i64 i11, .string s2, .int .i64 i12, l2.v, .int .i64 i13] := by
        exact hX.only hO713 fun q hq => by
         simp only [List.mem_cons, List.not_mem_nil, or_false] at hq
         rcases hq with rfl | rfl
         · exact .inl hb
         · exact .inr (.inr (.inr rfl))
       have hy13 : RXN w13 (fun q => q = k1 ∨ q = k2) w8.heap.size w9.heap.size y cs := (a2.only hO913 fun q hq => .inl (by simp only [List.mem_singleton] at hq; omega)).holes fun q h1 h2 _ => (by omega)
       rw [hxa]
       exact .two w.heap.size w7.heap.size w8.heap.size w9.heap.size w10.heap.size _ _ _ _ _ _ x y _ cs hx13 z8 hy13 (by omega) (by omega) (by omega) (by omega) (by have := hB13.lt; omega) (by omega) hB13
     · omega
   obtain ⟨j', c', a', hR9, hst2⟩ := hst2
   refine (operator_c (hR9.own hO912 (by simp; omega)) (k : Int)).mono ?_
   rintro _ w13 ⟨rfl, hO13⟩
   obtain ⟨nv', hnv', hA'⟩ := hst2 w13 hO13
   exact ⟨_, rfl, hO13.same (by simp; omega), nv', hnv', by have := hO13.size; omega, hA'⟩
 · have hop : op = 0 := by simpa using hop
   refine ⟨hO7.new hO14 (by omega), ?_⟩
   rcases hA with ⟨c, a, j, _, hc, hRe, hRd⟩ | ⟨x, j, hoj, hX, hRd, hRe, hnv⟩
   · rw [hRe]
     exact ⟨hc, ⟨i10, i11, s2.data.toList, i12, l2, i13, by unfold exv; rw [<- T_of]⟩, j, hRd.own hO14 (by simp; omega)⟩
   · rw [hRe, loop_zero (by rw [<- hoj, hop])]
     exact ⟨_, rfl, ((hX.only hO14 fun q hq => .inr (.inr (.inl (by simpa using hq)))).holes fun _ _ _ _ h => h).wide (Nat.le_refl _) hO14.size, hRd.own hO14 (by simp; omega)⟩
theorem reader_c : ∀ f : Nat, (∀ (k d i : Nat) (w : World), k <= 6 -> d <= 20 -> need k d <= f -> Rd F G ts w b l sn i 0 0 (d : Int) ->
      Calls Tryz.prog 36 #[.pointer (some ⟨b, 0, none⟩), .int .i64 (k : Int)] w fun e w' => ∃ v, e = .returned v /\ Did5 F G ts w w' b l sn d (exprR ts f k d i) v) /\
    (∀ (d i : Nat) (w : World), d <= 20 -> need 6 d <= f -> Rd F G ts w b l sn i 0 0 (d : Int) ->
      Calls Tryz.prog 54 #[.pointer (some ⟨b, 0, none⟩)] w fun e w' => ∃ v, e = .returned v /\ Did5 F G ts w w' b l sn d (exprR ts f 6 d i) v)
  | 0 => ⟨fun k d i w hk hd hn => by unfold need at hn; omega, fun d i w hd hn => by unfold need at hn; omega⟩
  | f + 1 => by
    obtain ⟨ih1, ih2⟩ := reader_c f
    have one : ∀ (d i : Nat) (w : World), d <= 20 -> need 6 d <= f + 1 -> Rd F G ts w b l sn i 0 0 (d : Int) ->
      Calls Tryz.prog 54 #[.pointer (some ⟨b, 0, none⟩)] w fun e w' => ∃ v, e = .returned v /\ Did5 F G ts w w' b l sn d (exprR ts (f + 1) 6 d i) v := fun d i w hd hn h => by
      unfold need at hn
      exact eone_c hd h (fun h20 w i h => ih1 0 (d + 1) i w (by omega) (by omega) (by unfold need; omega) h) (fun h20 w i h => ih2 (d + 1) i w (by omega) (by unfold need; omega) h)
    refine ⟨fun k d i w hk hd hn h => ?_, one⟩
    by_cases h6 : k = 6
    · subst h6
      refine v24w ⟨b, 0, none⟩ _ (fun v w' => Did5 F G ts w w' b l sn d (exprR ts (f + 1) 6 d i) v) w ?_
      unfold v24v
      refine ⟨fun _ k0 w0 hk0 hk0' hO0 => ?_, fun hc => absurd hc (by decide)⟩
      refine (one d i w0 hd hn (h.only hO0)).mono ?_
      rintro _ w1 ⟨v, rfl, hD⟩
      obtain ⟨vk, vn, vs, vo, vl, va, rfl⟩ := hD.typed
      have hb := h.lb
      exact ⟨_, _, _, _, _, _, rfl, hD.1.same (by simp; omega), fun w2 hO2 => hD.around (hO0.weaken fun _ h => (by cases h)) hO2 (by simp; omega)⟩
    · unfold need at hn
      exact expr_step (by omega) h fun w i h => ih1 (k + 1) d i w (by omega) hd (by unfold need; omega) h
end
theorem build_ops (w : World) : ∃ (s : Sl) (w' : World), (Instr.buildSlice 26 16 #[.mk 1 (.string (ByteArray.mk #[43])), .mk 2 (.string (ByteArray.mk #[45])), .mk 3 (.string (ByteArray.mk #[42])), .mk 4 (.string (ByteArray.mk #[47])), .mk 5 (.string (ByteArray.mk #[37])), .mk 6 (.string (ByteArray.mk #[60])), .mk 7 (.string (ByteArray.mk #[60, 61])), .mk 8 (.string (ByteArray.mk #[62])), .mk 9 (.string (ByteArray.mk #[62, 61])), .mk 10 (.string (ByteArray.mk #[61, 61])), .mk 11 (.string (ByteArray.mk #[33, 61])), .mk 12 (.string (ByteArray.mk #[38, 38])), .mk 13 (.string (ByteArray.mk #[124, 124])), .mk 14 (.string (ByteArray.mk #[45])), .mk 15 (.string (ByteArray.mk #[33]))]).run Tryz.prog w = .ok (Sl.v s) w' /\
  SliceF rTx 1 w' (fun k => w.heap.size <= k /\ k < w'.heap.size) s opsL /\ Only [] w w' := by
 have hrun := run_buildSlice (P := Tryz.prog) w 26 9 16 #[.mk 1 (.string (ByteArray.mk #[43])), .mk 2 (.string (ByteArray.mk #[45])), .mk 3 (.string (ByteArray.mk #[42])), .mk 4 (.string (ByteArray.mk #[47])), .mk 5 (.string (ByteArray.mk #[37])), .mk 6 (.string (ByteArray.mk #[60])), .mk 7 (.string (ByteArray.mk #[60, 61])), .mk 8 (.string (ByteArray.mk #[62])), .mk 9 (.string (ByteArray.mk #[62, 61])), .mk 10 (.string (ByteArray.mk #[61, 61])), .mk 11 (.string (ByteArray.mk #[33, 61])), .mk 12 (.string (ByteArray.mk #[38, 38])), .mk 13 (.string (ByteArray.mk #[124, 124])), .mk 14 (.string (ByteArray.mk #[45])), .mk 15 (.string (ByteArray.mk #[33]))]
  (opsL.map fun x => Value.string (T x)).toArray Tryz.t9 _ (by kernel_rfl) (by kernel_rfl) rfl (by decide) (by decide) (by kernel_rfl)
 refine ⟨⟨some ⟨w.heap.size, 0, none⟩, 16, 16⟩, _, hrun, ⟨rfl, Nat.le_refl _, fun h => (by cases h), (by decide : (16 : Nat) <= 9223372036854775807), fun j x hx => ?_⟩, Only.alloc _ _⟩
 have hB := Blk.alloc w 9 (opsL.map fun x => Value.string (T x))
 have hlt := hB.lt
 refine ⟨⟨w.heap.size, 0, none⟩, [.string (T x)], rfl, ⟨Nat.le_refl _, hlt⟩, rfl, ?_, rfl⟩
 rw [Nat.mul_one]
 exact Blk.at1 hB j (by rw [List.getElem?_map, hx]; rfl)
theorem ops_c (w : World) : Calls Tryz.prog 35 #[] w fun e w' => ∃ s : Sl, e = .returned s.v /\ SliceF rTx 1 w' (fun k => w.heap.size <= k /\ k < w'.heap.size) s opsL /\ Only [] w w' := by
 refine (v23w (fun v w' => ∃ s : Sl, v = s.v /\ SliceF rTx 1 w' (fun k => w.heap.size <= k /\ k < w'.heap.size) s opsL /\ Only [] w w') w ?_).mono (by
  rintro e w' ⟨v, rfl, s, rfl, h⟩; exact ⟨s, rfl, h⟩)
 unfold v23v
 obtain ⟨s, w', h1, h2, h3⟩ := build_ops w
 exact ⟨s, w', h1, s, rfl, h2, h3⟩
def endN (ts : List Tk) : Nat := (ts.takeWhile fun t => t.k != 5).length
theorem endN_le (ts : List Tk) : endN ts <= ts.length := by
 unfold endN
 exact (List.takeWhile_sublist _).length_le
theorem tk_cons_s {t : Tk} {ts : List Tk} {i : Nat} : tk (t :: ts) (i + 1) = tk ts i := by unfold tk; rw [List.getElem?_cons_succ]
theorem tk_cons_z {t : Tk} {ts : List Tk} : tk (t :: ts) 0 = t := rfl
theorem endN_lt : ∀ (ts : List Tk) (i : Nat), i < endN ts -> (tk ts i).k ≠ 5
 | [], _, h => by simp [endN] at h
 | t :: ts, i, h => by
  unfold endN at h
  rw [List.takeWhile_cons] at h
  split at h
  · rename_i ht
    cases i with
    | zero => rw [tk_cons_z]; simpa using ht
    | succ i => rw [tk_cons_s]; exact endN_lt ts i (by simpa [endN] using h)
  · simp at h
theorem endN_at : ∀ (ts : List Tk), endN ts < ts.length -> (tk ts (endN ts)).k = 5
 | [], h => by simp at h
 | t :: ts, h => by
  unfold endN at h ⊢
  rw [List.takeWhile_cons] at h ⊢
  split
  · rename_i ht
    rw [if_pos ht] at h
    rw [List.length_cons, tk_cons_s]
    exact endN_at ts (by simpa [endN] using h)
  · rename_i ht
    rw [List.length_nil, tk_cons_z]
    simpa using ht
theorem endN_end {ts : List Tk} (h : endN ts + 1 = ts.length) : EndL ts := fun i hi => by
 constructor
 · intro hk
   refine Decidable.byContradiction fun hn => endN_lt ts i (by omega) hk
 · intro hn
   have : i = endN ts := by omega
   rw [this]
   exact endN_at ts (by omega)
theorem isEnd_c (w : World) (t : Tk) : Calls Tryz.prog 34 #[t.v] w fun e w' => e = .returned (.bool (t.k == 5)) /\ Only [] w w' := by
 refine ret (v14w t.k (T t.t) t.n t.a (fun v w' => v = .bool (t.k == 5) /\ Only [] w w') w ?_)
 unfold v14v
 exact fun k0 w0 _ _ hO => ⟨rfl, hO⟩
theorem endIdx_c {w : World} {F : Nat -> Prop} {l : Sl} {ts : List Tk} (h : SliceF rTk 4 w F l ts) : Calls Tryz.prog 33 #[l.v, .func (.func 34) #[] #[]] w fun e w' => e = .returned (.int .i64 (if endN ts < ts.length then (endN ts : Int) else -1)) /\ Only [] w w' := by
 refine ret (v55w l ⟨.func (.func 34) #[] #[], rfl⟩ (fun v w' => v = .int .i64 (if endN ts < ts.length then (endN ts : Int) else -1) /\ Only [] w w') w ?_)
 unfold v55v
 have hlen := h.len
 have hbig := h.big
 have hcap := h.cap
 refine ⟨fun nv i w' => ∃ n : Nat, n <= endN ts /\ i = (n : Int) /\ nv = ts.length - n /\ Only [] w w', ts.length, ⟨0, Nat.zero_le _, rfl, rfl, Only.refl _ _⟩, ?_⟩
 rintro nv _ w0 ⟨n, hn, rfl, rfl, hO0⟩
 have hle := endN_le ts
 refine ⟨fun hc => ?_, fun hc => ?_⟩
 · have hlt : (n : Int) < l.n := of_decide_eq_true hc
   obtain ⟨ad, x, cs, g1, g2, g3, g4, g5, g6⟩ := (SliceF.only rTk_ok (by decide) h hO0 (by simp)).get (Int.natCast_nonneg n) hlt
   rw [Int.toNat_natCast, tk_at (by omega)] at g2
   injection g2 with g2
   subst g2
   unfold rTk at g6
   subst g6
   refine ⟨ad, g1, _, _, _, _, g5, 34, [], [], rfl, fnOk_run (by kernel_rfl), ?_⟩
   refine (isEnd_c w0 (tk ts n)).mono ?_
   rintro _ w1 ⟨rfl, hO1⟩
   refine ⟨_, rfl, fun hb => ⟨?_, hO0.tr0 hO1⟩, fun hb => ⟨ts.length - (n + 1), by omega, n + 1, ?_, by rw [wr' (by omega) (by omega)]; rfl, rfl, hO0.tr0 hO1⟩⟩
   · have hb : (tk ts n).k = 5 := by simpa using hb
     have : n = endN ts := by
      refine Decidable.byContradiction fun hne => endN_lt ts n (by omega) hb
     rw [if_pos (by omega), this]
   · have hb : ¬ (tk ts n).k = 5 := by simpa using hb
     refine Decidable.byContradiction fun hne => hb ?_
     have : n = endN ts := by omega
     rw [this]
     exact endN_at ts (by omega)
 · have hge : ¬ (n : Int) < l.n := of_decide_eq_false hc
   rw [if_neg (by omega)]
   exact ⟨rfl, hO0⟩
def ex0 : Ex := .mk 0 0 [] 0 [] 0
def parseA (ts : List Tk) (a : Int) : Ex × Int × Int × Int :=
 if 0 <= a /\ a < ts.length /\ endN ts + 1 = ts.length then (match parseR ts a.toNat with
  | .error (c, p) => (ex0, 0, c, p)
  | .ok (x, j) => (x, (j : Int), 0, 0))
 else (ex0, 0, 1, -1)
theorem rx0 (w : World) (lo hi : Nat) : RX w lo hi ex0 [.int .i64 0, .int .i64 0, .string (ByteArray.mk #[]), .int .i64 0, Sl.nil.v, .int .i64 0] := .leaf ..
theorem parse_c {w : World} {F : Nat -> Prop} {l : Sl} {ts : List Tk} (h : SliceF rTk 4 w F l ts) (a : Int) (ha : InI a) : Calls Tryz.prog 17 #[l.v, .int .i64 a] w fun e w' =>
  ∃ cs, e = .returned (.tuple #[.agg cs.toArray, .int .i64 (parseA ts a).2.1, .agg #[.int .i64 (parseA ts a).2.2.1, .int .i64 (parseA ts a).2.2.2]]) /\ RX w' w.heap.size w'.heap.size (parseA ts a).1 cs /\ ((parseA ts a).2.2.1 = 0 -> 0 <= (parseA ts a).2.1 /\ (parseA ts a).2.1 < ts.length) /\ Only [] w w' := by
 refine (v15w l a (fun v w' => ∃ cs, v = (.tuple #[.agg cs.toArray, .int .i64 (parseA ts a).2.1, .agg #[.int .i64 (parseA ts a).2.2.1, .int .i64 (parseA ts a).2.2.2]]) /\ RX w' w.heap.size w'.heap.size (parseA ts a).1 cs /\ ((parseA ts a).2.2.1 = 0 -> 0 <= (parseA ts a).2.1 /\ (parseA ts a).2.1 < ts.length) /\ Only [] w w') w ?_).mono (by
  rintro e w' ⟨v, rfl, cs, rfl, h⟩; exact ⟨cs, rfl, h⟩)
 unfold v15v
 intro k0 k1 w0 hk0 hk0' hk1 hk1' hO0
 have hlen := h.len
 have hcap := h.cap
 have hbig := h.big
 have z0 := hO0.size
 have h := (h.inHeap rTk_ok (by decide))
 refine (endIdx_c (SliceF.only rTk_ok (by decide) h hO0 (by simp))).mono ?_
 rintro _ w1 ⟨rfl, hO1⟩
 have z1 := hO1.size
 have hO01 := hO0.tr0 hO1
 have hle := endN_le ts
 have hcond : (((decide (a < 0)) || (decide (a >= (l.n : Int)))) || ((if endN ts < ts.length then (endN ts : Int) else -1) != (IntKind.wrap .i64 ((l.n : Int) - 1)))) = !decide (0 <= a /\ a < ts.length /\ endN ts + 1 = ts.length) := by
  rw [wr' (by omega) (by omega), hlen]
  by_cases h1 : endN ts < ts.length
  · rw [if_pos h1, Bool.eq_iff_iff]
    simp
    omega
  · rw [if_neg h1, Bool.eq_iff_iff]
    simp
    omega
 refine ⟨_, rfl, hO1.same (by simp; omega), ?_⟩
 rw [hcond]
 refine ⟨fun hc w2 hO2 => ?_, fun hc => ?_⟩
 · have hc : ¬ (0 <= a /\ a < ts.length /\ endN ts + 1 = ts.length) := by
    rw [Bool.not_eq_true', decide_eq_false_iff_not] at hc; exact hc
   rw [parseA, if_neg hc]
   exact ⟨_, rfl, rx0 _ _ _, fun h => (by cases h), (hO01.weaken (bs' := []) fun _ h => (by cases h)).trans hO2 fun x hx => .inr (by simp only [List.mem_cons, List.not_mem_nil, or_false] at hx; omega)⟩
 · have hc : 0 <= a /\ a < ts.length /\ endN ts + 1 = ts.length := by
    rw [Bool.not_eq_false', decide_eq_true_eq] at hc; exact hc
   rw [parseA, if_pos hc]
   obtain ⟨i, rfl⟩ : ∃ i : Nat, a = (i : Int) := ⟨a.toNat, by omega⟩
   refine (ops_c w1).mono ?_
   rintro _ w3 ⟨sn, rfl, hsn, hO3⟩
   have z3 := hO3.size
   refine ⟨sn, rfl, hO3.same (by simp; omega), fun b w4 hb hb' hO4 hB4 => ?_⟩
   have z4 := hO4.size
   have hO03 := hO01.tr0 hO3
   have hR : Rd (fun k => F k /\ k < w.heap.size) (fun k => w1.heap.size <= k /\ k < w3.heap.size) ts w4 b l sn i 0 0 ((0 : Nat) : Int) :=
    ⟨hB4, SliceF.only rTk_ok (by decide) h (hO03.tr0 hO4) (by simp), SliceF.only rTx_ok (by decide) hsn hO4 (by simp), fun k hk => by have := hk.2; omega, fun k hk => by have := hk.2; omega, endN_end hc.2.2, by omega⟩
   refine ((reader_c (need 0 0)).1 0 0 i w4 (by decide) (by decide) (Nat.le_refl _) hR).mono ?_
   rintro _ w5 ⟨v, rfl, hD⟩
   obtain ⟨vk, vn, vs, vo, vl, va, rfl⟩ := hD.typed
   have z5 := hD.1.size
   obtain ⟨hO5, hD⟩ := hD
   rw [Int.toNat_natCast]
   have hpr : parseR ts i = exprR ts (need 0 0) 0 0 i := rfl
   rw [hpr]
   have fin : ∀ {j : Nat} {c p : Int}, Rd (fun k => F k /\ k < w.heap.size) (fun k => w1.heap.size <= k /\ k < w3.heap.size) ts w5 b l sn j c p ((0 : Nat) : Int) -> ∀ w8, Only [] w5 w8 -> ∀ w9, Only [k1, k0] w8 w9 -> Only [] w w9 := fun hR w8 hO8 w9 hO9 => (((hO03.tr0 hO4).trans hO5 fun x hx => .inr (by simp only [List.mem_singleton] at hx; omega)).tr0 hO8).trans hO9 fun x hx => .inr (by simp only [List.mem_cons, List.not_mem_nil, or_false] at hx; omega)
   refine ⟨_, _, _, _, _, _, rfl, hO5.same (by simp; omega), ?_⟩
   cases hE : exprR ts (need 0 0) 0 0 i with
   | error e =>
    rw [hE] at hD
    obtain ⟨c, p⟩ := e
    obtain ⟨a1, a2, j, a3⟩ := hD
    refine ⟨_, _, _, _, _, _, a3.blk, fun k3 w6 hk3 hk3' hO6 hB6 => ?_⟩
    have z6 := hO6.size
    refine (bad_c (a3.only hO6)).mono ?_
    rintro _ w7 ⟨rfl, hO7⟩
    have h7 := (a3.only hO6).only hO7
    have hne : (c != 0) = true := by simpa using a1
    refine ⟨_, rfl, hO7.same (by simp; omega), _, _, _, _, _, _, h7.blk, fun _ w8 hO8 hB8 n1 n2 n3 n4 n5 n6 => ⟨fun k => k = b, rfl, fun e => n2 e, fun e => n4 e, fun w9 hO9 _ => ⟨_, rfl, rx0 _ _ _, fun h => absurd h a1, fin a3 w8 (hO6.tr0 (hO7.tr0 hO8)) w9 hO9⟩⟩, fun hc => by rw [hne] at hc; cases hc⟩
   | ok q =>
    rw [hE] at hD
    obtain ⟨x, j⟩ := q
    obtain ⟨cs, a1, a2, a3⟩ := hD
    refine ⟨_, _, _, _, _, _, a3.blk, fun k3 w6 hk3 hk3' hO6 hB6 => ?_⟩
    have z6 := hO6.size
    refine (bad_c (a3.only hO6)).mono ?_
    rintro _ w7 ⟨rfl, hO7⟩
    have z7 := hO7.size
    have h7 := (a3.only hO6).only hO7
    refine ⟨_, rfl, hO7.same (by simp; omega), _, _, _, _, _, _, h7.blk, fun hc => (by simp at hc), fun _ w10 hO10 hB10 n1 n2 n3 n4 n5 n6 => ⟨fun k => k = b, rfl, fun e => n2 e, fun e => n4 e, fun w11 hO11 _ => ?_⟩⟩
    have z10 := hO10.size
    have z11 := hO11.size
    have hcs : (exv vk vn vs vo vl va) = cs := congrArg Array.toList (Value.agg.inj a1)
    refine ⟨exv vk vn vs vo vl va, rfl, ?_, fun _ => ⟨Int.natCast_nonneg j, by have := a3.lt; dsimp only; omega⟩, fin a3 w10 (hO6.tr0 (hO7.tr0 hO10)) w11 hO11⟩
    rw [hcs]
    exact ((a2.only (hO6.tr0 (hO7.tr0 hO10)) (by simp)).only hO11 fun q hq => .inl (by simp only [List.mem_cons, List.not_mem_nil, or_false] at hq; omega)).wide (by omega) (by omega)
def readA (l : List UInt8) : Ex × Int × Int :=
 if (tokensM l).2.1 ≠ 0 then (ex0, (tokensM l).2.1, (tokensM l).2.2)
 else if (parseA (tokensM l).1 0).2.2.1 ≠ 0 then (ex0, (parseA (tokensM l).1 0).2.2.1, (parseA (tokensM l).1 0).2.2.2)
 else if (tk (tokensM l).1 (parseA (tokensM l).1 0).2.1.toNat).k ≠ 5 then (ex0, 4, (tk (tokensM l).1 (parseA (tokensM l).1 0).2.1.toNat).a)
 else ((parseA (tokensM l).1 0).1, 0, (parseA (tokensM l).1 0).2.2.2)
theorem read_c {w : World} (l : List UInt8) (hE : Er w) : Calls Tryz.prog 10 #[.string (T l)] w fun e w' =>
  ∃ cs, e = .returned (.tuple #[.agg cs.toArray, .agg #[.int .i64 (readA l).2.1, .int .i64 (readA l).2.2]]) /\ RX w' w.heap.size w'.heap.size (readA l).1 cs /\ Only [] w w' := by
 refine (v16w (T l) (fun v w' => ∃ cs, v = (.tuple #[.agg cs.toArray, .agg #[.int .i64 (readA l).2.1, .int .i64 (readA l).2.2]]) /\ RX w' w.heap.size w'.heap.size (readA l).1 cs /\ Only [] w w') w ?_).mono (by
  rintro e w' ⟨v, rfl, cs, rfl, h⟩; exact ⟨cs, rfl, h⟩)
 unfold v16v
 intro k0 k1 w0 hk0 hk0' hk1 hk1' hO0
 have z0 := hO0.size
 refine (tokens_c l (hE.only hO0)).mono ?_
 rintro _ w1 ⟨l0, rfl, hT, hO1⟩
 have z1 := hO1.size
 have hO01 := hO0.tr0 hO1
 generalize htk : tokensM l = tm at *
 obtain ⟨ts, c, p⟩ := tm
 dsimp only at hT ⊢
 have hra : readA l = if c ≠ 0 then (ex0, c, p) else if (parseA ts 0).2.2.1 ≠ 0 then (ex0, (parseA ts 0).2.2.1, (parseA ts 0).2.2.2) else if (tk ts (parseA ts 0).2.1.toNat).k ≠ 5 then (ex0, 4, (tk ts (parseA ts 0).2.1.toNat).a) else ((parseA ts 0).1, 0, (parseA ts 0).2.2.2) := by
  unfold readA; rw [htk]
 refine ⟨l0, _, _, rfl, hO1.same (by simp; omega), fun hc k2 w2 hk2 hk2' hO2 n1 n2 n3 => ⟨fun k => k = k2, rfl, fun e => n2 e, fun e => n3 e, fun w3 hO3 => ?_⟩, fun hc k3 w4 hk3 hk3' hO4 => ?_⟩
 · have hc : c ≠ 0 := by simpa using hc
   rw [hra, if_pos hc]
   exact ⟨_, rfl, rx0 _ _ _, ((hO01.tr0 hO2).trans hO3 fun x hx => .inr (by simp only [List.mem_cons, List.not_mem_nil, or_false] at hx; omega))⟩
 · have hc : c = 0 := by simpa using hc
   rw [if_neg (by simp [hc])] at hra
   have z4 := hO4.size
   refine (parse_c (hT.only hO4).sl 0 ⟨by decide, by decide⟩).mono ?_
   rintro _ w5 ⟨cs, rfl, hX, hj, hO5⟩
   have z5 := hO5.size
   generalize hpa : parseA ts 0 = pa at *
   obtain ⟨x, j, c', p'⟩ := pa
   dsimp only at hX hj hra ⊢
   obtain ⟨xl, rfl, _⟩ := hX.cells
   refine ⟨_, _, _, _, _, _, _, _, _, rfl, hO5.same (by simp; omega), fun k4 w6 hk4 hk4' hO6 => ?_⟩
   have z6 := hO6.size
   have h6 := ((hT.only (hO4.tr0 hO5)).keep (w' := w6) fun k hk hlt => hO6.block k hlt (by
    have := hT.blk hk.2
    simp only [List.mem_singleton]
    dsimp only at this
    omega))
   have hl6 := h6.len
   have hO06 : Only [] w w6 := ((hO01.tr0 hO4).tr0 hO5).new hO6 (by omega)
   have fin : ∀ {w8 w9 : World}, Only [k3] w6 w8 -> Only [k1, k0] w8 w9 -> Only [] w w9 := fun h8 h9 => (hO06.new h8 (by omega)).trans h9 fun x hx => .inr (by simp only [List.mem_cons, List.not_mem_nil, or_false] at hx; omega)
   refine ⟨fun i9 i10 w7 => Only [k3] w6 w7 /\ ((c' ≠ 0 /\ i9 = c' /\ i10 = p') ∨ (c' = 0 /\ (tk ts j.toNat).k ≠ 5 /\ i9 = 4 /\ i10 = (tk ts j.toNat).a) ∨ (c' = 0 /\ (tk ts j.toNat).k = 5 /\ i9 = 0 /\ i10 = p')), ?_, ?_⟩
   · rintro i9 i10 w7 ⟨hO7, hcase⟩
     have z7 := hO7.size
     refine ⟨fun hi w8 hO8 n1 n2 n3 n4 n5 n6 => ⟨fun k => k = k3, rfl, ?_, ?_, fun w9 hO9 => ?_⟩, fun hi w10 hO10 n1 n2 n3 n4 n5 n6 => ⟨fun k => k = k3, rfl, ?_, ?_, fun w11 hO11 => ?_⟩⟩
     · intro e; omega
     · intro e; omega
     · have hi : i9 ≠ 0 := by simpa using hi
       have hr : readA l = (ex0, i9, i10) := by
        rw [hra]
        rcases hcase with ⟨a1, rfl, rfl⟩ | ⟨a1, a2, rfl, rfl⟩ | ⟨a1, a2, rfl, rfl⟩
        · rw [if_pos a1]
        · rw [if_neg (by simp [a1]), if_pos a2]
        · exact absurd rfl hi
       rw [hr]
       exact ⟨_, rfl, rx0 _ _ _, fin (hO7.tr0 hO8) hO9⟩
     · intro e; omega
     · intro e; omega
     · have hi : i9 = 0 := by simpa using hi
       have hr : readA l = (x, i9, i10) := by
        rw [hra]
        rcases hcase with ⟨a1, rfl, rfl⟩ | ⟨a1, a2, rfl, rfl⟩ | ⟨a1, a2, rfl, rfl⟩
        · exact absurd hi a1
        · exact absurd hi (by decide)
        · rw [if_neg (by simp [a1]), if_neg (by simp [a2])]
       rw [hr]
       have hO5' : Only [k3, k1, k0] w5 w11 := (((hO6.trans hO7 fun x hx => .inl hx).tr0 hO10).weaken (bs' := [k3, k1, k0]) fun x hx => .inl (by simp only [List.mem_singleton] at hx; simp [hx])).trans hO11 fun x hx => .inl (by simp only [List.mem_cons, List.not_mem_nil, or_false] at hx ⊢; omega)
       have z11 := hO5'.size
       exact ⟨_, rfl, (hX.only hO5' fun q hq => .inl (by simp only [List.mem_cons, List.not_mem_nil, or_false] at hq; omega)).wide (by omega) z11, fin (hO7.tr0 hO10) hO11⟩
   · by_cases hc' : c' = 0
     · obtain ⟨hj0, hj1⟩ := hj hc'
       obtain ⟨n, rfl⟩ : ∃ n : Nat, j = (n : Int) := ⟨j.toNat, by omega⟩
       obtain ⟨ad, t, cs, g1, g2, g3, g4, g5, g6⟩ := h6.sl.get hj0 (by omega)
       rw [Int.toNat_natCast, tk_at (by omega)] at g2
       injection g2 with g2
       subst g2
       unfold rTk at g6
       subst g6
       rw [Int.toNat_natCast]
       refine ⟨ad, fun _ => g1, (tk ts n).k, fun _ => g5.at1 0 _ rfl, fun hh => ⟨ad, g1, (tk ts n).a, g5.at1 3 _ rfl, fun w12 hO12 => ⟨hO12, .inr (.inl ⟨hc', ?_, rfl, rfl⟩)⟩⟩, fun hh => ⟨Only.refl _ _, .inr (.inr ⟨hc', ?_, hc', rfl⟩)⟩⟩
       · simpa [hc'] using hh
       · simpa [hc'] using hh
     · have hb : (c' == 0) = false := by simpa using hc'
       refine ⟨⟨0, 0, none⟩, fun hh => (by rw [hb] at hh; cases hh), 0, fun hh => (by rw [hb] at hh; cases hh), fun hh => (by rw [hb] at hh; cases hh), fun _ => ⟨Only.refl _ _, .inl ⟨hc', rfl, rfl⟩⟩⟩
def rEx : Nat -> Rp Ex
 | 0 => fun _ _ _ _ => False
 | d + 1 => fun w F x cs => ∃ sl : Sl, cs = exv x.k x.n x.s x.op sl x.a /\ SliceF (rEx d) 6 w F sl x.subs
theorem rEx_ok : ∀ d, (rEx d).Ok
 | 0 => ⟨fun h _ => h.elim, fun h => h.elim, fun h _ => h.elim, fun h => h.elim⟩
 | d + 1 => ⟨fun ⟨sl, h1, h2⟩ hk => ⟨sl, h1, SliceF.keep (rEx_ok d) h2 (by decide) hk⟩, fun ⟨sl, h1, h2⟩ => ⟨sl, h1, SliceF.inHeap (rEx_ok d) h2 (by decide)⟩, fun ⟨sl, h1, h2⟩ hk => ⟨sl, h1, SliceF.mono (rEx_ok d) h2 hk⟩, fun ⟨sl, h1, h2⟩ => by
  subst h1
  intro v hv
  simp only [List.mem_cons, List.not_mem_nil, or_false] at hv
  rcases hv with rfl | rfl | rfl | rfl | rfl | rfl <;> rfl⟩
theorem slImp {α : Type} {r q : Rp α} {size : Nat} {w : World} {F : Nat -> Prop} {s : Sl} {xs : List α} (h : SliceF r size w F s xs) (hi : ∀ x cs, x ∈ xs -> r w F x cs -> q w F x cs) : SliceF q size w F s xs :=
 ⟨h.len, h.cap, h.nil0, h.big, fun j x hx => by
  obtain ⟨base, cs, h1, h2, h3, h4, h5⟩ := h.at_ j x hx
  exact ⟨base, cs, h1, h2, h3, h4, hi x cs (List.mem_of_getElem? hx) h5⟩⟩
section
variable {w w' : World} {F : Nat -> Prop} {x y : Ex} {cs ds : List Value}
theorem rEx_up : ∀ {d : Nat} {x : Ex} {cs : List Value}, rEx d w F x cs -> rEx (d + 1) w F x cs
 | 0, _, _, h => h.elim
 | d + 1, x, cs, ⟨sl, h1, h2⟩ => ⟨sl, h1, slImp h2 fun x cs _ h => rEx_up h⟩
theorem rEx_le {d e : Nat} (h : d <= e) (hx : rEx d w F x cs) : rEx e w F x cs := by
  induction e with
  | zero => have : d = 0 := by omega
            subst this; exact hx
  | succ e ih =>
    by_cases he : d = e + 1
    · subst he; exact hx
    · exact rEx_up (ih (by omega))
theorem rEx_only {d : Nat} (h : rEx d w F x cs) (hO : Only [] w w') : rEx d w' F x cs := (rEx_ok d).only h hO (by simp)
theorem RXN.ex {N : Nat -> Prop} {lo hi : Nat} (h : RXN w N lo hi x cs) : ∃ d, rEx d w (fun k => lo <= k /\ k < hi) x cs := by
 induction h with
 | leaf lo hi k n s op a => exact ⟨1, Sl.nil, rfl, SliceF.nil _ _ _ _⟩
 | one lo m g hi k n s op a x cs h1 h2 h3 h4 hn h5 ih =>
  obtain ⟨d, ih⟩ := ih
  obtain ⟨sl, hcs, _⟩ := h1.cells
  refine ⟨d + 1, _, rfl, rfl, Nat.le_refl _, fun h => (by cases h), (by decide : (1 : Nat) <= 9223372036854775807), fun j y hj => ?_⟩
  have hj0 : j = 0 := by
   have := (List.getElem?_eq_some_iff.1 hj).1
   simp only [Ex.subs, List.length_singleton] at this
   omega
  subst hj0
  simp only [Ex.subs, List.getElem?_cons_zero, Option.some.injEq] at hj
  subst hj
  exact ⟨⟨g, 0, none⟩, cs, rfl, ⟨h2, h4⟩, by rw [hcs]; rfl, by rw [Nat.zero_mul]; exact h5.cells 0 cs fun j v hv => by rw [Nat.zero_add]; exact hv, (rEx_ok d).mono ih fun k hk => ⟨hk.1, by omega⟩⟩
 | two lo m m' m2 g hi k n s op a x y cs ds h1 h2 h3 h4 h5 h6 h7 h8 hn h9 ih1 ih2 =>
  obtain ⟨d1, ih1⟩ := ih1
  obtain ⟨d2, ih2⟩ := ih2
  obtain ⟨sl, hcs, _⟩ := h1.cells
  obtain ⟨sl2, hds, _⟩ := h3.cells
  have e1 : cs.length = 6 := by rw [hcs]; rfl
  have e2 : ds.length = 6 := by rw [hds]; rfl
  refine ⟨max d1 d2 + 1, _, rfl, rfl, Nat.le_refl _, fun h => (by cases h), (by decide : (2 : Nat) <= 9223372036854775807), fun j y hj => ?_⟩
  rcases j with _ | _ | j
  · simp only [Ex.subs, List.getElem?_cons_zero, Option.some.injEq] at hj
    subst hj
    exact ⟨⟨g, 0, none⟩, cs, rfl, ⟨by dsimp only; omega, h8⟩, e1, by rw [Nat.zero_mul]; exact h9.cells 0 cs fun j v hv => by rw [Nat.zero_add, List.getElem?_append_left (List.getElem?_eq_some_iff.1 hv).1]; exact hv, (rEx_ok _).mono (rEx_le (Nat.le_max_left _ _) ih1) fun k hk => ⟨hk.1, by omega⟩⟩
  · simp only [Ex.subs, List.getElem?_cons_succ, List.getElem?_cons_zero, Option.some.injEq] at hj
    subst hj
    exact ⟨⟨g, 0, none⟩, ds, rfl, ⟨by dsimp only; omega, h8⟩, e2, by
     rw [addr_lit]
     exact h9.cells 6 ds fun j v hv => by rw [List.getElem?_append_right (by omega), e1, Nat.add_sub_cancel_left]; exact hv, (rEx_ok _).mono (rEx_le (Nat.le_max_right _ _) ih2) fun k hk => ⟨by omega, by omega⟩⟩
  · simp [Ex.subs] at hj
end
theorem T_eq (l m : List UInt8) : ((T l).toList == (T m).toList) = decide (l = m) := ba_eq l m
def trA (b : Bool) : Int := if b then 1 else 0
def divA (op a b : Int) : Int × Int :=
 if b = 0 then (0, 10) else if op = 4 /\ b = -1 then (IntKind.wrap .i64 (0 - a), 0) else if op = 4 then (IntKind.wrap .i64 (a.tdiv b), 0) else if b = -1 then (0, 0) else (a.tmod b, 0)
def doA (op a b : Int) : Int × Int :=
 if op = 1 then (IntKind.wrap .i64 (a + b), 0) else if op = 2 then (IntKind.wrap .i64 (a - b), 0) else if op = 3 then (IntKind.wrap .i64 (a * b), 0)
 else if op = 4 ∨ op = 5 then divA op a b else if op = 8 then (trA (decide (b < a)), 0) else if op = 6 then (trA (decide (a < b)), 0)
 else if op = 7 then (IntKind.wrap .i64 (1 - trA (decide (b < a))), 0) else if op = 9 then (IntKind.wrap .i64 (1 - trA (decide (a < b))), 0)
 else if op = 10 then (trA (a == b), 0) else if op = 11 then (IntKind.wrap .i64 (1 - trA (a == b)), 0)
 else if op = 12 then (bits .and .i64 (trA (a != 0)) (trA (b != 0)), 0) else if op = 13 then (trA (bits .or .i64 a b != 0), 0) else (0, 11)
def oneA (op a : Int) : Int × Int := if op = 14 then (IntKind.wrap .i64 (0 - a), 0) else if op = 15 then (trA (a == 0), 0) else (0, 11)
theorem truth_c (w : World) (b : Bool) : Calls Tryz.prog 42 #[.bool b] w fun e w' => e = .returned (.int .i64 (trA b)) /\ w' = w := by
 refine ret (v5w b (fun v w' => v = .int .i64 (trA b) /\ w' = w) w ?_)
 unfold v5v
 exact ⟨fun h => by rw [h]; exact ⟨rfl, rfl⟩, fun h => by rw [h]; exact ⟨rfl, rfl⟩⟩
theorem turned_c (w : World) (n : Int) : Calls Tryz.prog 44 #[.int .i64 n] w fun e w' => e = .returned (.int .i64 (IntKind.wrap .i64 (1 - n))) /\ w' = w := by
 refine ret (v6w n (fun v w' => v = .int .i64 (IntKind.wrap .i64 (1 - n)) /\ w' = w) w ?_)
 unfold v6v
 exact ⟨rfl, rfl⟩
theorem divide_c (w : World) (op a b : Int) : Calls Tryz.prog 43 #[.int .i64 op, .int .i64 a, .int .i64 b] w fun e w' => e = .returned (.tuple #[.int .i64 (divA op a b).1, .int .i64 (divA op a b).2]) /\ w' = w := by
 refine ret (v4w op a b (fun v w' => v = .tuple #[.int .i64 (divA op a b).1, .int .i64 (divA op a b).2] /\ w' = w) w ?_)
 unfold v4v
 refine ⟨fun h => ?_, fun h => ⟨fun h1 => ?_, fun h1 => ⟨fun h2 => ?_, fun h2 => ⟨fun h3 => ?_, fun h3 => ?_⟩⟩⟩⟩
 · have h : b = 0 := by simpa using h
   rw [divA, if_pos h]; exact ⟨rfl, rfl⟩
 · have h : b ≠ 0 := by simpa using h
   have h1 : op = 4 /\ b = -1 := by simpa using h1
   rw [divA, if_neg h, if_pos h1]; exact ⟨rfl, rfl⟩
 · have h : b ≠ 0 := by simpa using h
   have h2 : op = 4 := by simpa using h2
   have h1 : ¬ (op = 4 /\ b = -1) := fun hh => by rw [hh.1, hh.2] at h1; simp at h1
   rw [divA, if_neg h, if_neg h1, if_pos h2]; exact ⟨h, rfl, rfl⟩
 · have h : b ≠ 0 := by simpa using h
   have h2 : op ≠ 4 := by simpa using h2
   have h3 : b = -1 := by simpa using h3
   rw [divA, if_neg h, if_neg (fun hh => h2 hh.1), if_neg h2, if_pos h3]; exact ⟨rfl, rfl⟩
 · have h : b ≠ 0 := by simpa using h
   have h2 : op ≠ 4 := by simpa using h2
   have h3 : b ≠ -1 := by simpa using h3
   rw [divA, if_neg h, if_neg (fun hh => h2 hh.1), if_neg h2, if_neg h3]; exact ⟨h, rfl, rfl⟩
theorem do_c (w : World) (op a b : Int) : Calls Tryz.prog 27 #[.int .i64 op, .int .i64 a, .int .i64 b] w fun e w' => e = .returned (.tuple #[.int .i64 (doA op a b).1, .int .i64 (doA op a b).2]) /\ w' = w := by
 refine ret (v0w op a b (fun v w' => v = .tuple #[.int .i64 (doA op a b).1, .int .i64 (doA op a b).2] /\ w' = w) w ?_)
 unfold v0v
 have eq : ∀ {k : Int}, (op == k) = true -> op = k := fun h => by simpa using h
 have ne : ∀ {k : Int}, (op == k) = false -> op ≠ k := fun h => by simpa using h
 refine ⟨fun n w' => doA op a b = (n, 0) /\ w' = w, ?_, fun p q w' => doA op a b = (IntKind.wrap .i64 (1 - trA (decide (p < q))), 0) /\ w' = w, ?_, fun p q w' => doA op a b = (trA (decide (p < q)), 0) /\ w' = w, ?_, fun h => ?_, fun h1 => ⟨fun h => ?_, fun h2 => ⟨fun h => ?_, fun h3 => ⟨fun c w' => c = decide (op = 4 ∨ op = 5) /\ w' = w, ?_, fun h => ?_, fun h => ?_⟩⟩⟩⟩
 · rintro n _ ⟨h, rfl⟩
   rw [h]; exact ⟨rfl, rfl⟩
 · rintro p q _ ⟨h, rfl⟩
   refine (truth_c _ _).mono ?_
   rintro _ _ ⟨rfl, rfl⟩
   refine ⟨_, rfl, (turned_c _ _).mono ?_⟩
   rintro _ _ ⟨rfl, rfl⟩
   exact ⟨_, rfl, h, rfl⟩
 · rintro p q _ ⟨h, rfl⟩
   refine (truth_c _ _).mono ?_
   rintro _ _ ⟨rfl, rfl⟩
   exact ⟨_, rfl, h, rfl⟩
 · rw [doA, if_pos (eq h)]; exact ⟨rfl, rfl⟩
 · rw [doA, if_neg (ne h1), if_pos (eq h)]; exact ⟨rfl, rfl⟩
 · rw [doA, if_neg (ne h1), if_neg (ne h2), if_pos (eq h)]; exact ⟨rfl, rfl⟩
 · rintro _ _ ⟨rfl, rfl⟩
   have e3 : doA op a b = if op = 4 ∨ op = 5 then divA op a b else if op = 8 then (trA (decide (b < a)), 0) else if op = 6 then (trA (decide (a < b)), 0)
    else if op = 7 then (IntKind.wrap .i64 (1 - trA (decide (b < a))), 0) else if op = 9 then (IntKind.wrap .i64 (1 - trA (decide (a < b))), 0)
    else if op = 10 then (trA (a == b), 0) else if op = 11 then (IntKind.wrap .i64 (1 - trA (a == b)), 0)
    else if op = 12 then (bits .and .i64 (trA (a != 0)) (trA (b != 0)), 0) else if op = 13 then (trA (bits .or .i64 a b != 0), 0) else (0, 11) := by
    rw [doA, if_neg (ne h1), if_neg (ne h2), if_neg (ne h3)]
   rw [e3]
   refine ⟨fun hb => ?_, fun hb => ?_⟩
   · rw [if_pos (of_decide_eq_true hb)]
     refine (divide_c _ op a b).mono ?_
     rintro _ _ ⟨rfl, rfl⟩
     exact ⟨_, _, rfl, rfl, rfl⟩
   rw [if_neg (of_decide_eq_false hb)]
   refine ⟨fun h => ?_, fun h8 => ⟨fun h => ?_, fun h6 => ⟨fun h => ?_, fun h7 => ⟨fun h => ?_, fun h9 => ⟨fun h => (truth_c _ _).mono ?_, fun h10 => ⟨fun h => (truth_c _ _).mono ?_, fun h11 => ⟨fun h => (truth_c _ _).mono ?_, fun h12 => ⟨fun h => (truth_c _ _).mono ?_, fun h13 => ?_⟩⟩⟩⟩⟩⟩⟩⟩
   · rw [if_pos (eq h)]; exact ⟨rfl, rfl⟩
   · rw [if_neg (ne h8), if_pos (eq h)]; exact ⟨rfl, rfl⟩
   · rw [if_neg (ne h8), if_neg (ne h6), if_pos (eq h)]; exact ⟨rfl, rfl⟩
   · rw [if_neg (ne h8), if_neg (ne h6), if_neg (ne h7), if_pos (eq h)]; exact ⟨rfl, rfl⟩
   · rintro _ _ ⟨rfl, rfl⟩
     rw [if_neg (ne h8), if_neg (ne h6), if_neg (ne h7), if_neg (ne h9), if_pos (eq h)]
     exact ⟨_, rfl, rfl, rfl⟩
   · rintro _ _ ⟨rfl, rfl⟩
     refine ⟨_, rfl, (turned_c _ _).mono ?_⟩
     rintro _ _ ⟨rfl, rfl⟩
     rw [if_neg (ne h8), if_neg (ne h6), if_neg (ne h7), if_neg (ne h9), if_neg (ne h10), if_pos (eq h)]
     exact ⟨_, rfl, rfl, rfl⟩
   · rintro _ _ ⟨rfl, rfl⟩
     refine ⟨_, rfl, (truth_c _ _).mono ?_⟩
     rintro _ _ ⟨rfl, rfl⟩
     rw [if_neg (ne h8), if_neg (ne h6), if_neg (ne h7), if_neg (ne h9), if_neg (ne h10), if_neg (ne h11), if_pos (eq h)]
     exact ⟨_, rfl, rfl, rfl⟩
   · rintro _ _ ⟨rfl, rfl⟩
     rw [if_neg (ne h8), if_neg (ne h6), if_neg (ne h7), if_neg (ne h9), if_neg (ne h10), if_neg (ne h11), if_neg (ne h12), if_pos (eq h)]
     exact ⟨_, rfl, rfl, rfl⟩
   · rw [if_neg (ne h8), if_neg (ne h6), if_neg (ne h7), if_neg (ne h9), if_neg (ne h10), if_neg (ne h11), if_neg (ne h12), if_neg (ne h13)]
     exact ⟨rfl, rfl⟩
 · have := eq h
   subst this
   exact ⟨by decide, rfl⟩
 · refine ⟨?_, rfl⟩
   rw [Bool.eq_iff_iff]
   simp only [beq_iff_eq, decide_eq_true_eq]
   have := ne h
   omega
theorem one1_c (w : World) (op a : Int) : Calls Tryz.prog 26 #[.int .i64 op, .int .i64 a] w fun e w' => e = .returned (.tuple #[.int .i64 (oneA op a).1, .int .i64 (oneA op a).2]) /\ w' = w := by
 refine ret (v1w op a (fun v w' => v = .tuple #[.int .i64 (oneA op a).1, .int .i64 (oneA op a).2] /\ w' = w) w ?_)
 unfold v1v
 refine ⟨fun h => ?_, fun h1 => ⟨fun h => (truth_c _ _).mono ?_, fun h2 => ?_⟩⟩
 · have h : op = 14 := by simpa using h
   rw [oneA, if_pos h]; exact ⟨rfl, rfl⟩
 · have h1 : op ≠ 14 := by simpa using h1
   have h : op = 15 := by simpa using h
   rintro _ _ ⟨rfl, rfl⟩
   rw [oneA, if_neg h1, if_pos h]
   exact ⟨_, rfl, rfl, rfl⟩
 · have h1 : op ≠ 14 := by simpa using h1
   have h2 : op ≠ 15 := by simpa using h2
   rw [oneA, if_neg h1, if_neg h2]
   exact ⟨rfl, rfl⟩
structure Env5 where
 N : List (List UInt8)
 V : List Int
 A : List (List UInt8)
def ixA (c : List UInt8) : List (List UInt8) -> Nat
 | [] => 0
 | x :: l => if x = c then 0 else ixA c l + 1
def namedA (e : Env5) (s : List UInt8) : Int × Int := if ixA s e.N < e.N.length /\ ixA s e.N < e.V.length then ((e.V[ixA s e.N]?).getD 0, 0) else (0, 23)
def tookA (p : Int × Int) : Int × Int := if p.2 ≠ 0 then (0, p.2) else p
def partsA (k : Int) : Int := if 0 > IntKind.wrap .i64 (k - 3) then 0 else IntKind.wrap .i64 (k - 3)
def evM (e : Env5) : Nat -> Ex -> Int × Int
 | 0, _ => (0, 22)
 | d + 1, x => if x.k < 1 ∨ 5 < x.k ∨ (x.subs.length : Int) ≠ partsA x.k then (0, 22)
  else if x.k = 1 then (x.n, 0) else if x.k = 2 then namedA e x.s else if x.k = 3 then (trA (e.A.contains x.s), 0)
  else match x.subs with
   | [] => (0, 22)
   | y :: r => if (evM e d y).2 ≠ 0 then (0, (evM e d y).2) else if x.k = 4 then tookA (oneA x.op (evM e d y).1)
    else if x.op = 12 /\ (evM e d y).1 = 0 then (0, 0) else if x.op = 13 /\ (evM e d y).1 ≠ 0 then (1, 0)
    else match r with
     | [] => (0, 22)
     | z :: _ => if (evM e d z).2 ≠ 0 then (0, (evM e d z).2) else tookA (doA x.op (evM e d y).1 (evM e d z).1)
structure Wk (F : Nat -> Prop) (e : Env5) (w : World) (b : Nat) (sN sV sA : Sl) (err : Int) : Prop where
 blk : Blk w b 52 [sN.v, sV.v, sA.v, .int .i64 err]
 n : SliceF rTx 1 w F sN e.N
 v : SliceF rInt 1 w F sV e.V
 a : SliceF rTx 1 w F sA e.A
 hF : ∀ k, F k -> k < b
section
variable {F : Nat -> Prop} {e : Env5} {w w' : World} {b : Nat} {sN sV sA : Sl} {err : Int}
theorem Wk.only (h : Wk F e w b sN sV sA err) (hO : Only [] w w') : Wk F e w' b sN sV sA err :=
 ⟨hO.blk h.blk (by simp), SliceF.only rTx_ok (by decide) h.n hO (by simp), SliceF.only rInt_ok (by decide) h.v hO (by simp), SliceF.only rTx_ok (by decide) h.a hO (by simp), h.hF⟩
theorem Wk.turn (h : Wk F e w b sN sV sA err) (hO : Only [b] w w') {err' : Int} (hB : Blk w' b 52 [sN.v, sV.v, sA.v, .int .i64 err']) : Wk F e w' b sN sV sA err' :=
 ⟨hB, SliceF.only rTx_ok (by decide) h.n hO (fun k hk _ hm => by have := h.hF k hk; simp only [List.mem_singleton] at hm; omega), SliceF.only rInt_ok (by decide) h.v hO (fun k hk _ hm => by have := h.hF k hk; simp only [List.mem_singleton] at hm; omega), SliceF.only rTx_ok (by decide) h.a hO (fun k hk _ hm => by have := h.hF k hk; simp only [List.mem_singleton] at hm; omega), h.hF⟩
theorem Wk.lb (h : Wk F e w b sN sV sA err) : b < w.heap.size := h.blk.lt
theorem fail_c (h : Wk F e w b sN sV sA err) (c : Int) : Calls Tryz.prog 22 #[.pointer (some ⟨b, 0, none⟩), .int .i64 c] w fun r w' => r = .returned (.int .i64 0) /\ Only [b] w w' /\ Wk F e w' b sN sV sA (if err = 0 then c else err) := by
 refine ret (v11w ⟨b, 0, none⟩ c (fun v w' => v = .int .i64 0 /\ Only [b] w w' /\ Wk F e w' b sN sV sA (if err = 0 then c else err)) w ?_)
 unfold v11v
 refine ⟨fun w' => Only [b] w w' /\ Wk F e w' b sN sV sA (if err = 0 then c else err), fun w' h => ⟨rfl, h⟩, err, Blk.at1 h.blk 3 rfl, fun hc => ⟨b, 3, _, _, rfl, h.blk, by simp, fun w1 hO1 hB1 => ⟨hO1, ?_⟩⟩, fun hc => ⟨Only.refl _ _, ?_⟩⟩
 · rw [if_pos (by simpa using hc)]
   exact h.turn hO1 hB1
 · rw [if_neg (by simpa using hc)]
   exact h
theorem took_c (h : Wk F e w b sN sV sA 0) (p : Int × Int) : Calls Tryz.prog 25 #[.pointer (some ⟨b, 0, none⟩), .int .i64 p.1, .int .i64 p.2] w fun r w' => r = .returned (.int .i64 (tookA p).1) /\ Only [b] w w' /\ Wk F e w' b sN sV sA (tookA p).2 := by
 refine ret (v13w ⟨b, 0, none⟩ p.1 p.2 (fun v w' => v = .int .i64 (tookA p).1 /\ Only [b] w w' /\ Wk F e w' b sN sV sA (tookA p).2) w ?_)
 unfold v13v
 refine (fail_c h p.2).mono ?_
 rintro _ w0 ⟨rfl, hO0, h0⟩
 rw [if_pos rfl] at h0
 refine ⟨_, rfl, _, Blk.at1 h0.blk 3 rfl, fun hc => ?_, fun hc => ?_⟩
 · have hc : p.2 ≠ 0 := by simpa using hc
   rw [tookA, if_pos hc]
   exact ⟨rfl, hO0, h0⟩
 · have hc : p.2 = 0 := by simpa using hc
   rw [tookA, if_neg (by simp [hc])]
   exact ⟨rfl, hO0, h0⟩
theorem indexE_c {s : Sl} {l : List (List UInt8)} (h : SliceF rTx 1 w F s l) (c : List UInt8) :
  Calls Tryz.prog 41 #[Sl.v s, .string (T c)] w fun r w' => r = .returned (.int .i64 (if ixA c l < l.length then (ixA c l : Int) else -1)) /\ w' = w := by
 refine ret (v57w s _ (fun v w' => v = .int .i64 (if ixA c l < l.length then (ixA c l : Int) else -1) /\ w' = w) w ?_)
 unfold v57v
 have hlen := h.len
 have hbig := h.big
 have hcap := h.cap
 refine ⟨fun nv i w' => ∃ n : Nat, n <= l.length /\ i = (n : Int) /\ nv = l.length - n /\ ixA c l = n + ixA c (l.drop n) /\ w' = w, l.length, ⟨0, Nat.zero_le _, rfl, rfl, by rw [List.drop_zero, Nat.zero_add], rfl⟩, ?_⟩
 rintro nv _ _ ⟨n, hn, rfl, rfl, hp, rfl⟩
 refine ⟨fun hc => ?_, fun hc => ?_⟩
 · have hlt : (n : Int) < s.n := of_decide_eq_true hc
   obtain ⟨ad, x, cs, g1, g2, g3, g4, g5, g6⟩ := h.get (Int.natCast_nonneg n) hlt
   rw [Int.toNat_natCast] at g2
   unfold rTx at g6
   subst g6
   have hd : l.drop n = x :: l.drop (n + 1) := by rw [List.drop_eq_getElem_cons (List.getElem?_eq_some_iff.1 g2).1, (List.getElem?_eq_some_iff.1 g2).2]
   rw [hd, ixA] at hp
   refine ⟨ad, g1, _, g5, ?_⟩
   rw [T_eq]
   refine ⟨fun he => ⟨?_, rfl⟩, fun he => ⟨l.length - (n + 1), by omega, n + 1, by omega, by rw [wr' (by omega) (by omega)]; rfl, rfl, ?_, rfl⟩⟩
   · have he : c = x := of_decide_eq_true he
     rw [if_pos he.symm] at hp
     rw [if_pos (by omega), hp, Nat.add_zero]
   · have he : c ≠ x := of_decide_eq_false he
     rw [if_neg (fun h => he h.symm)] at hp
     omega
 · have hge : ¬ ((n : Int) < s.n) := of_decide_eq_false hc
   rw [List.drop_of_length_le (by omega), ixA] at hp
   rw [if_neg (by omega)]
   exact ⟨rfl, rfl⟩
theorem named_c (h : Wk F e w b sN sV sA 0) (s : List UInt8) : Calls Tryz.prog 23 #[.pointer (some ⟨b, 0, none⟩), .string (T s)] w fun r w' => r = .returned (.int .i64 (namedA e s).1) /\ Only [b] w w' /\ Wk F e w' b sN sV sA (namedA e s).2 := by
 refine ret (v12w ⟨b, 0, none⟩ _ (fun v w' => v = .int .i64 (namedA e s).1 /\ Only [b] w w' /\ Wk F e w' b sN sV sA (namedA e s).2) w ?_)
 unfold v12v
 have l1 := h.n.len
 have l2 := h.v.len
 have l3 := h.n.cap
 have l4 := h.n.big
 refine ⟨sN, Blk.at1 h.blk 0 rfl, (indexE_c h.n s).mono ?_⟩
 rintro _ _ ⟨rfl, rfl⟩
 refine ⟨_, rfl, sV, fun _ => Blk.at1 h.blk 1 rfl, fun hc => (fail_c h 23).mono ?_, fun hc => ?_⟩
 · rintro _ w1 ⟨rfl, hO1, h1⟩
   rw [if_pos rfl] at h1
   have hc : ¬ (ixA s e.N < e.N.length /\ ixA s e.N < e.V.length) := fun hh => by
    rw [if_pos hh.1] at hc
    simp only [Bool.or_eq_true, decide_eq_true_eq] at hc
    omega
   rw [namedA, if_neg hc]
   exact ⟨_, rfl, rfl, hO1, h1⟩
 · have hc : ixA s e.N < e.N.length /\ ixA s e.N < e.V.length := by
    simp only [Bool.or_eq_false_iff, decide_eq_false_iff_not] at hc
    by_cases h1 : ixA s e.N < e.N.length
    · rw [if_pos h1] at hc
      omega
    · rw [if_neg h1] at hc
      omega
   rw [namedA, if_pos hc, if_pos hc.1]
   obtain ⟨ad, x, cs, g1, g2, g3, g4, g5, g6⟩ := h.v.get (i := (ixA s e.N : Int)) (Int.natCast_nonneg _) (by omega)
   rw [Int.toNat_natCast] at g2
   obtain ⟨rfl, _⟩ := g6
   rw [g2]
   exact ⟨sV, Blk.at1 h.blk 1 rfl, ad, g1, x, g5, rfl, Only.refl _ _, h⟩
end
theorem wexpr_c : ∀ (d : Nat) {F G : Nat -> Prop} {e : Env5} {w : World} {b : Nat} {sN sV sA : Sl} {x : Ex} {cs : List Value}, Wk F e w b sN sV sA 0 -> rEx d w G x cs -> (∀ k, G k -> k < b) ->
  Calls Tryz.prog 15 #[.pointer (some ⟨b, 0, none⟩), .agg cs.toArray] w fun r w' => r = .returned (.int .i64 (evM e d x).1) /\ Only [b] w w' /\ Wk F e w' b sN sV sA (evM e d x).2
 | 0, _, _, _, _, _, _, _, _, _, _, _, h, _ => h.elim
 | d + 1, F, G, e, w, b, sN, sV, sA, x, cs, hW, ⟨sl, h1, h2⟩, hG => by
  subst h1
  refine ret (v10w ⟨b, 0, none⟩ x.k x.n (T x.s) x.op sl x.a (fun v w' => v = .int .i64 (evM e (d + 1) x).1 /\ Only [b] w w' /\ Wk F e w' b sN sV sA (evM e (d + 1) x).2) w ?_)
  unfold v10v
  intro k0 w0 hk0 hk0' hO0
  have hb := hW.lb
  have hlen := h2.len
  have hW0 := hW.only hO0
  have z0 := hO0.size
  have hO0b : Only [b] w w0 := hO0.weaken fun _ h => (by cases h)
  have sm : ∀ {u u' : World}, w0.heap.size <= u.heap.size -> Only [b] u u' -> Same [k0] u u' := fun hu hO => hO.same (by simp; omega)
  have sub : ∀ {w1 : World} {i : Nat} {y : Ex}, Only [b] w0 w1 -> x.subs[i]? = some y -> ∃ ad sy, SlAt sl (i : Int) 6 ad /\ Cells w1 ad (exv y.k y.n y.s y.op sy y.a) /\ rEx d w1 G y (exv y.k y.n y.s y.op sy y.a) := fun {w1 i y} hO hy => by
   have hS := SliceF.only (rEx_ok d) (by decide) (SliceF.only (rEx_ok d) (by decide) h2 hO0 (by simp)) hO fun k hk _ hm => by have := hG k hk; simp only [List.mem_singleton] at hm; omega
   have hlt := (List.getElem?_eq_some_iff.1 hy).1
   obtain ⟨ad, y', cs, g1, g2, g3, g4, g5, g6⟩ := hS.get (Int.natCast_nonneg i) (by omega)
   rw [Int.toNat_natCast, hy] at g2
   injection g2 with g2
   subst g2
   have : ∃ sy : Sl, cs = exv y.k y.n y.s y.op sy y.a := by
    cases d with
    | zero => exact g6.elim
    | succ d => obtain ⟨sy, hcs, _⟩ := g6; exact ⟨sy, hcs⟩
   obtain ⟨sy, rfl⟩ := this
   exact ⟨ad, sy, g1, g5, g6⟩
  have hcond : ((((0 : Int) != 0) || decide (x.k < 1)) || decide (x.k > 5) || ((sl.n : Int) != (if 0 > (IntKind.wrap .i64 (x.k - 3)) then 0 else IntKind.wrap .i64 (x.k - 3)))) = decide (x.k < 1 ∨ 5 < x.k ∨ (x.subs.length : Int) ≠ partsA x.k) := by
   rw [hlen]
   have : (if 0 > (IntKind.wrap .i64 (x.k - 3)) then 0 else IntKind.wrap .i64 (x.k - 3)) = partsA x.k := rfl
   rw [this, Bool.eq_iff_iff]
   simp only [Bool.or_eq_true, decide_eq_true_eq, bne_iff_ne, ne_eq, not_true_eq_false, false_or]
   constructor
   · rintro ((h | h) | h)
     · exact .inl h
     · exact .inr (.inl h)
     · exact .inr (.inr h)
   · rintro (h | h | h)
     · exact .inl (.inl h)
     · exact .inl (.inr h)
     · exact .inr h
  refine ⟨0, Blk.at1 hW0.blk 3 rfl, ?_⟩
  rw [hcond]
  refine ⟨fun hc => (fail_c hW0 22).mono ?_, fun hc => ?_⟩
  · rintro _ w1 ⟨rfl, hO1, h1⟩
    rw [if_pos rfl] at h1
    rw [evM, if_pos (of_decide_eq_true hc)]
    exact ⟨_, rfl, sm (Nat.le_refl _) hO1, rfl, hO0b.trans hO1 fun x hx => .inl hx, h1⟩
  have hc := of_decide_eq_false hc
  have hev : evM e (d + 1) x = (if x.k = 1 then (x.n, 0) else if x.k = 2 then namedA e x.s else if x.k = 3 then (trA (e.A.contains x.s), 0)
  else match x.subs with
   | [] => (0, 22)
   | y :: r => if (evM e d y).2 ≠ 0 then (0, (evM e d y).2) else if x.k = 4 then tookA (oneA x.op (evM e d y).1)
    else if x.op = 12 /\ (evM e d y).1 = 0 then (0, 0) else if x.op = 13 /\ (evM e d y).1 ≠ 0 then (1, 0)
    else match r with
     | [] => (0, 22)
     | z :: _ => if (evM e d z).2 ≠ 0 then (0, (evM e d z).2) else tookA (doA x.op (evM e d y).1 (evM e d z).1)) := by rw [evM, if_neg hc]
  rw [hev]
  refine ⟨fun hk => ?_, fun k1 => ⟨fun hk => (named_c hW0 x.s).mono ?_, fun k2 => ⟨fun hk w3 hO3 => ?_, fun k3 => ?_⟩⟩⟩
  · rw [if_pos (by simpa using hk)]
    exact ⟨rfl, hO0b, hW0⟩
  · have k1 : x.k ≠ 1 := by simpa using k1
    rw [if_neg k1, if_pos (by simpa using hk)]
    rintro _ w2 ⟨rfl, hO2, h2⟩
    exact ⟨_, rfl, sm (Nat.le_refl _) hO2, rfl, hO0b.trans hO2 fun x hx => .inl hx, h2⟩
  · have k1 : x.k ≠ 1 := by simpa using k1
    have k2 : x.k ≠ 2 := by simpa using k2
    rw [if_neg k1, if_neg k2, if_pos (by simpa using hk)]
    have hW3 := hW0.only hO3
    have z3 := hO3.size
    refine ⟨sA, Blk.at1 hW3.blk 2 rfl, (containsS_c hW3.a x.s).mono ?_⟩
    rintro _ w4 ⟨rfl, hO4⟩
    have hO04 : Only [b] w w4 := (hO0b.tr0 hO3).tr0 hO4
    refine ⟨_, rfl, sm z3 (hO4.weaken fun _ h => (by cases h)), fun hb => ?_, fun hb => ?_⟩
    · rw [hb]; exact ⟨rfl, hO04, hW3.only hO4⟩
    · rw [hb]; exact ⟨rfl, hO04, hW3.only hO4⟩
  · have k1 : x.k ≠ 1 := by simpa using k1
    have k2 : x.k ≠ 2 := by simpa using k2
    have k3 : x.k ≠ 3 := by simpa using k3
    rw [if_neg k1, if_neg k2, if_neg k3]
    have hk45 : x.k = 4 ∨ x.k = 5 := by omega
    have hp : partsA x.k = x.k - 3 := by
     unfold partsA
     rw [wr' (by omega) (by omega), if_neg (by omega)]
    have hsl : (x.subs.length : Int) = x.k - 3 := by
     refine Decidable.byContradiction fun hn => hc (.inr (.inr (by rw [hp]; exact hn)))
    obtain ⟨y, r, hy⟩ : ∃ y r, x.subs = y :: r := by
     cases hm : x.subs with
     | nil => rw [hm] at hsl; simp at hsl; omega
     | cons y r => exact ⟨y, r, rfl⟩
    rw [hy]
    obtain ⟨p, sy, g1, g2, g3⟩ := sub (i := 0) (Only.refl _ _) (y := y) (by rw [hy]; rfl)
    refine ⟨p, g1, _, _, _, _, _, _, g2, (wexpr_c d hW0 g3 hG).mono ?_⟩
    rintro _ w5 ⟨rfl, hO5, h5⟩
    have z5 := hO5.size
    have hO05 := hO0b.trans hO5 fun x hx => .inl hx
    dsimp only
    refine ⟨_, rfl, sm (Nat.le_refl _) hO5, _, Blk.at1 h5.blk 3 rfl, fun hi => ?_, fun hi => ?_⟩
    · have hi : (evM e d y).2 ≠ 0 := by simpa using hi
      rw [if_pos hi]
      exact ⟨rfl, hO05, h5⟩
    have hi : (evM e d y).2 = 0 := by simpa using hi
    rw [if_neg (by simp [hi])]
    rw [hi] at h5
    refine ⟨fun hk => (one1_c _ _ _).mono ?_, fun hk4 => ⟨fun ha => ?_, fun ha => ⟨fun ho => ?_, fun ho => ?_⟩⟩⟩
    · rintro _ _ ⟨rfl, rfl⟩
      rw [if_pos (by simpa using hk)]
      refine ⟨_, _, rfl, fun _ _ => rfl, (took_c h5 _).mono ?_⟩
      rintro _ w7 ⟨rfl, hO7, h7⟩
      exact ⟨_, rfl, sm z5 hO7, rfl, hO05.trans hO7 fun x hx => .inl hx, h7⟩
    · have hk4 : x.k ≠ 4 := by simpa using hk4
      have ha : x.op = 12 /\ (evM e d y).1 = 0 := by simpa using ha
      rw [if_neg hk4, if_pos ha]
      exact ⟨rfl, hO05, h5⟩
    · have hk4 : x.k ≠ 4 := by simpa using hk4
      have ha : ¬ (x.op = 12 /\ (evM e d y).1 = 0) := fun hh => by rw [hh.1, hh.2] at ha; simp at ha
      have ho : x.op = 13 /\ (evM e d y).1 ≠ 0 := by simpa using ho
      rw [if_neg hk4, if_neg ha, if_pos ho]
      exact ⟨rfl, hO05, h5⟩
    · have hk4 : x.k ≠ 4 := by simpa using hk4
      have ha : ¬ (x.op = 12 /\ (evM e d y).1 = 0) := fun hh => by rw [hh.1, hh.2] at ha; simp at ha
      have ho : ¬ (x.op = 13 /\ (evM e d y).1 ≠ 0) := fun hh => by
       have : ((x.op == 13) && ((evM e d y).1 != 0)) = true := by simp [hh.1, hh.2]
       rw [this] at ho; cases ho
      rw [if_neg hk4, if_neg ha, if_neg ho]
      obtain ⟨z, hz⟩ : ∃ z, r = [z] := by
       have : r.length = 1 := by
        rw [hy, List.length_cons] at hsl
        omega
       exact List.length_eq_one_iff.1 this
      subst hz
      dsimp only
      obtain ⟨p1, sz, f1, f2, f3⟩ := sub (i := 1) hO5 (y := z) (by rw [hy]; rfl)
      refine ⟨p1, f1, _, _, _, _, _, _, f2, (wexpr_c d h5 f3 hG).mono ?_⟩
      rintro _ w8 ⟨rfl, hO8, h8⟩
      have z8 := hO8.size
      have hO08 := hO05.trans hO8 fun x hx => .inl hx
      refine ⟨_, rfl, sm z5 hO8, _, Blk.at1 h8.blk 3 rfl, fun hi2 => ?_, fun hi2 => (do_c _ _ _ _).mono ?_⟩
      · have hi2 : (evM e d z).2 ≠ 0 := by simpa using hi2
        rw [if_pos hi2]
        exact ⟨rfl, hO08, h8⟩
      · have hi2 : (evM e d z).2 = 0 := by simpa using hi2
        rintro _ _ ⟨rfl, rfl⟩
        rw [if_neg (by simp [hi2])]
        rw [hi2] at h8
        refine ⟨_, _, rfl, fun _ _ => rfl, (took_c h8 _).mono ?_⟩
        rintro _ w10 ⟨rfl, hO10, h10⟩
        exact ⟨_, rfl, sm (by omega) hO10, rfl, hO08.trans hO10 fun x hx => .inl hx, h10⟩
theorem evM_norm (e : Env5) : ∀ (d : Nat) (x : Ex), (evM e d x).2 ≠ 0 -> (evM e d x).1 = 0
 | 0, _, _ => rfl
 | d + 1, x, h => by
  have tk : ∀ p : Int × Int, (tookA p).2 ≠ 0 -> (tookA p).1 = 0 := fun p hp => by
   unfold tookA at hp ⊢
   split
   · rfl
   · rename_i hh
     rw [if_neg hh] at hp
     exact absurd hp hh
  rw [evM] at h ⊢
  split
  · rfl
  rename_i h0
  rw [if_neg h0] at h
  split
  · rename_i h1; rw [if_pos h1] at h; exact absurd rfl h
  rename_i h1
  rw [if_neg h1] at h
  split
  · rename_i h2
    rw [if_pos h2] at h
    unfold namedA at h ⊢
    split
    · rename_i h3; rw [if_pos h3] at h; exact absurd rfl h
    · rfl
  rename_i h2
  rw [if_neg h2] at h
  split
  · rename_i h3; rw [if_pos h3] at h; exact absurd rfl h
  rename_i h3
  rw [if_neg h3] at h
  cases hs : x.subs with
  | nil => rfl
  | cons y r =>
   rw [hs] at h
   dsimp only at h ⊢
   split
   · rfl
   rename_i h4
   rw [if_neg h4] at h
   split
   · rename_i h5; rw [if_pos h5] at h; exact tk _ h
   rename_i h5
   rw [if_neg h5] at h
   split
   · rfl
   rename_i h6
   rw [if_neg h6] at h
   split
   · rename_i h7; rw [if_pos h7] at h; exact absurd rfl h
   rename_i h7
   rw [if_neg h7] at h
   cases r with
   | nil => rfl
   | cons z r =>
    dsimp only at h ⊢
    split
    · rfl
    rename_i h8
    rw [if_neg h8] at h
    exact tk _ h
theorem eval_c {d : Nat} {F G : Nat -> Prop} {e : Env5} {w : World} {sN sV sA : Sl} {x : Ex} {cs : List Value} (hx : rEx d w G x cs) (hN : SliceF rTx 1 w F sN e.N) (hV : SliceF rInt 1 w F sV e.V) (hA : SliceF rTx 1 w F sA e.A) :
  Calls Tryz.prog 9 #[.agg cs.toArray, .agg #[sN.v, sV.v, sA.v]] w fun r w' => r = .returned (.tuple #[.int .i64 (evM e d x).1, .int .i64 (evM e d x).2]) /\ Only [] w w' := by
 have hcs : ∃ sl : Sl, cs = exv x.k x.n x.s x.op sl x.a := by
  cases d with
  | zero => exact hx.elim
  | succ d => obtain ⟨sl, hcs, _⟩ := hx; exact ⟨sl, hcs⟩
 obtain ⟨sl, rfl⟩ := hcs
 refine ret (v7w x.k x.n (T x.s) x.op sl x.a sN sV sA (fun v w' => v = .tuple #[.int .i64 (evM e d x).1, .int .i64 (evM e d x).2] /\ Only [] w w') w ?_)
 unfold v7v
 intro k0 k1 k2 w0 hk0 hk0' hk1 hk1' hk2 hk2' hO0 hB0 n02 n12
 have z0 := hO0.size
 have hW : Wk (fun k => F k /\ k < w.heap.size) e w0 k2 sN sV sA 0 := ⟨hB0, SliceF.only rTx_ok (by decide) (SliceF.inHeap rTx_ok hN (by decide)) hO0 (by simp), SliceF.only rInt_ok (by decide) (SliceF.inHeap rInt_ok hV (by decide)) hO0 (by simp), SliceF.only rTx_ok (by decide) (SliceF.inHeap rTx_ok hA (by decide)) hO0 (by simp), fun k hk => by have := hk.2; omega⟩
 refine (wexpr_c d hW (rEx_only ((rEx_ok d).inHeap hx) hO0) (fun k hk => by have := hk.2; omega)).mono ?_
 rintro _ w1 ⟨rfl, hO1, h1⟩
 have hO01 : Only [] w w1 := hO0.trans hO1 fun x hx => .inr (by simp only [List.mem_singleton] at hx; omega)
 refine ⟨_, rfl, hO1.same (by simp; omega), sN, sV, sA, _, h1.blk, fun hi w2 hO2 _ => ?_, fun hi => ?_⟩
 · have hi : (evM e d x).2 ≠ 0 := by simpa using hi
   rw [evM_norm e d x hi]
   exact ⟨rfl, hO01.tr0 hO2⟩
 · have hi : (evM e d x).2 = 0 := by simpa using hi
   rw [hi]
   exact ⟨rfl, hO01⟩
theorem buildI (w : World) (l : List Int) (hl : ∀ x, x ∈ l -> InI x) {n : Nat} {parts : Array (Nat × Value)} (hp : parts = (((l.map fun x => Value.int .i64 x).zipIdx 0).map fun x => (x.2, x.1)).toArray) (hn : l.length = n) (h0 : 0 < n) (hsm : n * 1 <= 16777216) :
  ∃ s w', (Instr.buildSlice 31 n parts).run Tryz.prog w = .ok (Sl.v s) w' /\ SliceF rInt 1 w' (fun k => w.heap.size <= k) s l /\ Only [] w w' := by
 have hE : Els rInt 1 w (fun _ => False) l ((l.map fun x => Value.int .i64 x).map fun v => v.cells.toList) := by
  clear hp hn
  induction l with
  | nil => trivial
  | cons x l ih => exact ⟨⟨rfl, rfl, hl x (by simp)⟩, ih fun y hy => hl y (by simp [hy])⟩
 obtain ⟨s, w', h1, h2, h3, _⟩ := build_own (P := Tryz.prog) (t := 31) (e := 3) (i := Tryz.t3) (r := rInt) (size := 1) (by kernel_rfl) (by kernel_rfl) rfl rfl (by decide) hp (by rw [List.length_map]; exact hn) h0 hsm rInt_ok hE
 exact ⟨s, w', h1, SliceF.mono rInt_ok (h2.slice rInt_ok) fun k hk => hk.elim False.elim fun h => h.1, h3⟩
theorem buildT (w : World) (l : List (List UInt8)) {n : Nat} {parts : Array (Nat × Value)} (hp : parts = (((l.map fun x => Value.string (T x)).zipIdx 0).map fun x => (x.2, x.1)).toArray) (hn : l.length = n) (h0 : 0 < n) (hsm : n * 1 <= 16777216) :
  ∃ s w', (Instr.buildSlice 26 n parts).run Tryz.prog w = .ok (Sl.v s) w' /\ SliceF rTx 1 w' (fun k => w.heap.size <= k) s l /\ Only [] w w' := by
 obtain ⟨s, w', h1, h2, h3⟩ := buildS w l hp hn h0 hsm
 exact ⟨s, w', h1, SliceF.mono rTx_ok (flatS h2) fun k hk => hk.1, h3⟩
def evX : Ex := .mk 5 0 [] 12 [.mk 2 0 [121] 0 [] 0, .mk 5 0 [] 4 [.mk 2 0 [120] 0 [] 5, .mk 2 0 [121] 0 [] 9] 5] 0
def evY : Ex := .mk 5 0 [] 1 [.mk 5 0 [] 4 [.mk 2 0 [120] 0 [] 0, .mk 2 0 [121] 0 [] 4] 0, .mk 3 0 [115, 49] 0 [] 8] 0
def evT1 : List UInt8 := [121, 32, 38, 38, 32, 120, 32, 47, 32, 121]
def evT2 : List UInt8 := [120, 32, 47, 32, 121, 32, 43, 32, 105, 110, 40, 115, 49, 41]
theorem ev_read1 : readA evT1 = (evX, 0, 0) := by rfl
theorem ev_read2 : readA evT2 = (evY, 0, 0) := by rfl
theorem ev_1 (d : Nat) : evM ⟨[[120], [121]], [7, 0], []⟩ (d + 3) evX = (0, 0) := by rfl
theorem ev_2 (d : Nat) : (evM ⟨[[120], [121]], [7, 0], []⟩ (d + 3) evY).2 = 10 := by rfl
theorem ev_3 (d : Nat) : evM ⟨[[120], [121]], [7, 2], [[115, 49]]⟩ (d + 3) evY = (4, 0) := by rfl
theorem evsmall_c (w : World) (hE : Er w) : Calls Tryz.prog 5 #[] w fun e w' => e = .returned (.bool true) /\ Only [] w w' := by
 refine ret (v34w (fun v w' => v = .bool true /\ Only [] w w') w ?_)
 unfold v34v
 have hr := read_c evT1 hE
 rw [ev_read1] at hr
 refine hr.mono ?_
 rintro _ w0 ⟨cs, rfl, hX, hO0⟩
 have z0 := hO0.size
 obtain ⟨d1, hd1⟩ := hX.ex
 obtain ⟨xl, rfl, _⟩ := hX.cells
 refine ⟨_, _, _, _, _, _, _, _, rfl, fun k0 k1 w1 hk0 hk0' hk1 hk1' hO1 => ?_⟩
 have z1 := hO1.size
 obtain ⟨l1, w2, a2, b2, c2⟩ := buildT w1 [[120], [121]] (n := 2) (parts := #[(0, .string (T [120])), (1, .string (T [121]))]) rfl rfl (by decide) (by decide)
 have z2 := c2.size
 obtain ⟨l2, w3, a3, b3, c3⟩ := buildI w2 [7, 0] (by simp [InI]) (n := 2) (parts := #[(0, .int .i64 7), (1, .int .i64 0)]) rfl rfl (by decide) (by decide)
 have z3 := c3.size
 refine ⟨l1, w2, a2, c2.same (by simp; omega), l2, w3, a3, c3.same (by simp; omega), ?_⟩
 have hev1 := eval_c (e := ⟨[[120], [121]], [7, 0], []⟩) (F := fun _ => True) (rEx_le (Nat.le_add_right d1 3) (rEx_only hd1 ((hO1.tr0 c2).tr0 c3))) (SliceF.only rTx_ok (by decide) (SliceF.mono rTx_ok b2 fun _ _ => trivial) c3 (by simp)) (SliceF.mono rInt_ok b3 fun _ _ => trivial) (SliceF.nil rTx 1 w3 fun _ => True)
 rw [show (evM ⟨[[120], [121]], [7, 0], []⟩ (d1 + 3) (evX, 0, 0).1) = (0, 0) from ev_1 d1] at hev1
 refine hev1.mono ?_
 rintro _ w4 ⟨rfl, hO4⟩
 have z4 := hO4.size
 have hO04 := (((hO0.tr0 hO1).tr0 c2).tr0 c3).tr0 hO4
 refine ⟨_, _, rfl, hO4.same (by simp; omega), ?_⟩
 have hr2 := read_c evT2 (hE.only hO04)
 rw [ev_read2] at hr2
 refine hr2.mono ?_
 rintro _ w5 ⟨ds, rfl, hY, hO5⟩
 have z5 := hO5.size
 obtain ⟨d2, hd2⟩ := hY.ex
 obtain ⟨yl, rfl, _⟩ := hY.cells
 refine ⟨_, _, _, _, _, _, _, _, rfl, hO5.same (by simp; omega), fun k2 k3 w6 hk2 hk2' hk3 hk3' hO6 => ?_⟩
 have z6 := hO6.size
 obtain ⟨l4, w7, a7, b7, c7⟩ := buildT w6 [[120], [121]] (n := 2) (parts := #[(0, .string (T [120])), (1, .string (T [121]))]) rfl rfl (by decide) (by decide)
 have z7 := c7.size
 obtain ⟨l5, w8, a8, b8, c8⟩ := buildI w7 [7, 0] (by simp [InI]) (n := 2) (parts := #[(0, .int .i64 7), (1, .int .i64 0)]) rfl rfl (by decide) (by decide)
 have z8 := c8.size
 refine ⟨l4, w7, a7, c7.same (by simp; omega), l5, w8, a8, c8.same (by simp; omega), ?_⟩
 have hO58 := (hO6.tr0 c7).tr0 c8
 have hev2 := eval_c (e := ⟨[[120], [121]], [7, 0], []⟩) (F := fun _ => True) (rEx_le (Nat.le_add_right d2 3) (rEx_only hd2 hO58)) (SliceF.only rTx_ok (by decide) (SliceF.mono rTx_ok b7 fun _ _ => trivial) c8 (by simp)) (SliceF.mono rInt_ok b8 fun _ _ => trivial) (SliceF.nil rTx 1 w8 fun _ => True)
 refine hev2.mono ?_
 rintro _ w9 ⟨rfl, hO9⟩
 have z9 := hO9.size
 refine ⟨_, _, rfl, hO9.same (by simp; omega), ?_⟩
 obtain ⟨l6, w10, a10, b10, c10⟩ := buildT w9 [[120], [121]] (n := 2) (parts := #[(0, .string (T [120])), (1, .string (T [121]))]) rfl rfl (by decide) (by decide)
 have z10 := c10.size
 obtain ⟨l7, w11, a11, b11, c11⟩ := buildI w10 [7, 2] (by simp [InI]) (n := 2) (parts := #[(0, .int .i64 7), (1, .int .i64 2)]) rfl rfl (by decide) (by decide)
 have z11 := c11.size
 obtain ⟨l8, w12, a12, b12, c12⟩ := buildT w11 [[115, 49]] (n := 1) (parts := #[(0, .string (T [115, 49]))]) rfl rfl (by decide) (by decide)
 have z12 := c12.size
 refine ⟨l6, w10, a10, c10.same (by simp; omega), l7, w11, a11, c11.same (by simp; omega), l8, w12, a12, c12.same (by simp; omega), ?_⟩
 have hO512 := (((hO58.tr0 hO9).tr0 c10).tr0 c11).tr0 c12
 have hev3 := eval_c (e := ⟨[[120], [121]], [7, 2], [[115, 49]]⟩) (F := fun _ => True) (rEx_le (Nat.le_add_right d2 3) (rEx_only hd2 hO512)) (SliceF.only rTx_ok (by decide) (SliceF.mono rTx_ok b10 fun _ _ => trivial) (c11.tr0 c12) (by simp)) (SliceF.only rInt_ok (by decide) (SliceF.mono rInt_ok b11 fun _ _ => trivial) c12 (by simp)) (SliceF.mono rTx_ok b12 fun _ _ => trivial)
 rw [show (evM ⟨[[120], [121]], [7, 2], [[115, 49]]⟩ (d2 + 3) (evY, 0, 0).1) = (4, 0) from ev_3 d2] at hev3
 refine hev3.mono ?_
 rintro _ w13 ⟨rfl, hO13⟩
 refine ⟨_, _, rfl, hO13.same (by simp; omega), ?_, ((hO04.tr0 hO5).tr0 hO512).tr0 hO13⟩
 have : (evM ⟨[[120], [121]], [7, 0], []⟩ (d2 + 3) (evY, 0, 0).1).2 = 10 := ev_2 d2
 rw [this]
 rfl
def lenOk : Nat -> Ex -> Prop
 | 0, _ => True
 | d + 1, x => x.s.length < 4611686018427387903 /\ ∀ y, y ∈ x.subs -> lenOk d y
def cntL (f : Ex -> Nat) : List Ex -> Nat
 | [] => 0
 | x :: xs => f x + cntL f xs
def cntM : Nat -> Ex -> Nat
 | 0, _ => 0
 | d + 1, x => 1 + cntL (cntM d) x.subs
def numOk : Nat -> Ex -> Prop
 | 0, _ => True
 | d + 1, x => InI x.n /\ ∀ y, y ∈ x.subs -> numOk d y
end Go.Proofs.YtfknfhajdiccgaaGreatDoor.Con
namespace Go.Kt
open Go Go.RowKit Go.ChangeShapes Go.WideShapes
set_option linter.unusedSimpArgs false
set_option linter.unusedVariables false
def rPair {α β : Type} (r : Rp α) (q : Rp β) : Rp (α × β) := fun w F x cs => ∃ c d, cs = c ++ d /\ r w F x.1 c /\ q w F x.2 d
def rUnit : Rp Unit := fun _ _ _ cs => cs = []
section
variable {H : Type} {enc : TypeId × Value -> H} {P : Program}
theorem trodAll_stays (hl : laidOutB P = true) {W W' : World} {sp : Nat -> Bool} (hb : Below W.heap.size W W') : ∀ {ts : List TypeId} {vs : List Value} {ds : List (DataW H)} {ps : List MemPlace},
  (∀ t, t ∈ ts -> P.readableRec t = true /\ t < P.types.size) -> DataW.TrodAll enc P W 0 (fun _ => true) true ts vs ds ps -> (∀ x, x ∈ ps -> x.block < W.heap.size) -> (∀ x, x ∈ ps -> sp x.block = true) -> DataW.TrodAll enc P W' 0 sp true ts vs ds ps
 | [], vs, ds, ps, _, h, _, _ => by
  obtain ⟨rfl, rfl, rfl⟩ := trodAll_nil h
  exact trodAll_mk0
 | t :: ts, vs, ds, ps, hr, h, hlt, hsp => by
  obtain ⟨v, vs', d, ds', p, q, rfl, rfl, rfl, h1, h2⟩ := trodAll_cons h
  obtain ⟨r1, r2⟩ := hr t (by simp)
  exact trodAll_cons_mk (WideElems.Trod_stays hl r1 r2 h1 (fun x hx => hb.same (hlt x (by simp [hx]))) fun x hx => hsp x (by simp [hx]))
   (trodAll_stays hl hb (fun u hu => hr u (by simp [hu])) h2 (fun x hx => hlt x (by simp [hx])) fun x hx => hsp x (by simp [hx]))
theorem law_post {f : Func} {s : ChangeSpec} {fresh handsOn again : Bool} {W W' : World} {args : Array Value} {ds gs : List (DataW H)} {before : List MemPlace} {tb : TypeId}
  (hW : DataW.Whole enc P f.params.toList s.vars false W args.toList ds gs before) (hv : s.vars = [])
  (hres : (s.fn H (ds ++ gs)).results = [.lit (.bool true)]) (hargs : (s.fn H (ds ++ gs)).args = ds) (hvs : (s.fn H (ds ++ gs)).vars = [])
  (ht : f.resultTypes = #[tb]) (hu : P.underlying tb = some .bool) (hl : laidOutB P = true) (hread0 : (f.params.toList.all fun t => P.readableRec t && decide (t < P.types.size)) = true) (hO : Only [] W W') :
  s.post enc P f false fresh handsOn again W args (.bool true) W' := by
 have hb : Below W.heap.size W W' := hO.below (Nat.le_refl _) (by simp)
 have hread : ∀ t, t ∈ f.params.toList -> P.readableRec t = true /\ t < P.types.size := fun t ht => by simpa using List.all_eq_true.1 hread0 t ht
 have hlt := fun p hp => hW.lt p hp
 obtain ⟨p, q, hA, hV, rfl, hz, hn⟩ := id hW
 rw [hv] at hV
 obtain ⟨rfl, rfl⟩ := trodVars_none hV
 rw [List.append_nil] at *
 have hA' : ∀ sp : Nat -> Bool, (∀ x ∈ p, sp x.block = true) -> DataW.TrodAll enc P W' 0 sp true f.params.toList args.toList (s.fn H ds).args p := fun sp hsp => by
  rw [hargs]
  exact trodAll_stays hl hb hread hA (fun x hx => by simpa using hlt x hx) hsp
 have hV' : ∀ sp : Nat -> Bool, DataW.TrodVars enc P W' sp s.vars (s.fn H ds).vars [] := fun sp => by
  rw [hv, hvs]
  simp [DataW.TrodVars]
 have hres' : ∀ (b : Nat) (sp : Nat -> Bool) (hd : Bool), DataW.TrodAll enc P W' b sp hd f.resultTypes.toList ((Value.bool true).resultList f.resultTypes.size) (s.fn H ds).results [] := fun b sp hd => by
  rw [hres, ht]
  exact trodAll_cons_mk (shut_bool hu true) trodAll_mk0
 have hold : ∀ x ∈ p, (fun b => decide (b < W.heap.size)) x.block = true := fun x hx => by simpa using hlt x hx
 refine ⟨ds, [], p, [], p, [], hW, by simpa using hres' _ _ _, by simpa using hA' _ hold, by simpa using hV' _, World.keptBut_mono (fun x hx => ⟨hx, by simpa using hx⟩) (hb.frame (· ∈ p)), fun _ => ?_⟩
 refine ⟨ok_one ht rfl (okWide_bool_mk hu true), _, _, ([] ++ p) ++ [], ⟨[] ++ p, [], trodAll_append (hA' _ (fun _ _ => rfl)) (hres' _ _ _), hV' _, rfl, ?_, ?_⟩, ?_⟩
 · intro b off hp
   have hp : MemPlace.cell b off ∈ p := by simpa using hp
   rw [hb.frozen (p := ⟨b, off, none⟩) (hlt _ hp)]
   exact hz b off hp
 · intro ha
   cases ha
 · intro x hp _
   simpa using hp
variable {W : World} {base : Nat} {spare : Nat -> Bool} {held : Bool} {α : Type}
def Opens (enc : TypeId × Value -> H) (P : Program) (W : World) (base : Nat) (spare : Nat -> Bool) (held : Bool) (t : TypeId) (r : Rp α) : Prop :=
 ∀ (fuel : Nat) (cs : List Value) (x : DataW H × List MemPlace), DataW.trod enc P W base spare held fuel t cs = some x -> (∀ n, n ∈ x.1.weights P t -> n <= reachBytes) -> ∃ a : α, r W (fun _ => True) a cs
theorem opens_int {t : TypeId} (ht : P.underlying t = some (.int .i64)) : Opens enc P W base spare held t rInt := fun fuel cs x h _ => by
 obtain ⟨n, rfl, rfl, hw⟩ := DataW.trod_int ht h
 refine ⟨n, rfl, ?_⟩
 simpa [Lit.wf, IntKind.min, IntKind.max, IntKind.signed, IntKind.bits, InI] using hw
def rSl (r : Rp α) (size bytes : Nat) : Rp (List α) := fun w F xs cs => ∃ s : Sl, cs = [s.v] /\ SliceF r size w F s xs /\ xs.length * bytes <= 140737488351232
theorem weightsAll_mem {e : TypeId} : ∀ {l : List (DataW H)} {d : DataW H}, d ∈ l -> ∀ n, n ∈ d.weights P e -> n ∈ DataW.weightsAll P e l
 | d0 :: l, d, hd, n, hn => by
  simp only [DataW.weightsAll, List.mem_append]
  rcases List.mem_cons.1 hd with rfl | hd
  · exact .inl hn
  · exact .inr (weightsAll_mem hd n hn)
 | [], d, hd, _, _ => by simp at hd
theorem choose_list {β : Type} {p : Nat -> β -> Prop} : ∀ (n : Nat), (∀ i, i < n -> ∃ b, p i b) -> ∃ l : List β, l.length = n /\ ∀ i b, l[i]? = some b -> p i b
 | 0, _ => ⟨[], rfl, fun i b h => by simp at h⟩
 | n + 1, h => by
  obtain ⟨l, h1, h2⟩ := choose_list n fun i hi => h i (by omega)
  obtain ⟨b, hb⟩ := h n (by omega)
  refine ⟨l ++ [b], by simp [h1], fun i c hc => ?_⟩
  by_cases hi : i < l.length
  · rw [List.getElem?_append_left hi] at hc; exact h2 i c hc
  · rw [List.getElem?_append_right (by omega)] at hc
    have : i = n := by
     have := (List.getElem?_eq_some_iff.1 hc).1
     simp at this
     omega
    subst this
    simp [h1] at hc
    rw [<- hc]; exact hb
theorem Opens.map {β : Type} {t : TypeId} {r : Rp α} {q : Rp β} (h : Opens enc P W base spare held t r) (f : α -> β) (hf : ∀ a cs, r W (fun _ => True) a cs -> q W (fun _ => True) (f a) cs) : Opens enc P W base spare held t q := fun fuel cs x hx hw => by
 obtain ⟨a, ha⟩ := h fuel cs x hx hw
 exact ⟨f a, hf a cs ha⟩
theorem weights_of {ts : List TypeId} {ds : List (DataW H)} (h : (DataW.weightsEach P ts ds).all (· <= reachBytes) = true) (j : Nat) {t : TypeId} {d : DataW H} (ht : ts[j]? = some t) (hd : ds[j]? = some d) : ∀ n, n ∈ d.weights P t -> n <= reachBytes :=
 fun n hn => by simpa using List.all_eq_true.1 h n (DataW.weights_mem_each ht hd n hn)
end
structure IsBulk {H : Type} (B : DataW H -> Nat) : Prop where
 one : ∀ d, 1 <= B d
 sl : ∀ e s, (e.map B).sum + 1 <= B (.slice e s)
 str : ∀ b, b.length + 1 <= B (.lit (.string b))
 agg : ∀ p, (p.map B).sum + 1 <= B (.agg p)
 ptr : ∀ d, B d + 1 <= B (.ptr d)
 iface : ∀ t d, B d + 1 <= B (.iface t d)
section
variable {H : Type} {enc : TypeId × Value -> H} {P : Program} {W : World} {base : Nat} {spare : Nat -> Bool} {held : Bool} {α β : Type} {B : DataW H -> Nat}
def rStr : Rp ByteArray := fun _ _ s cs => cs = [.string s] /\ s.size <= 140737488351232
def OpensB (B : DataW H -> Nat) (enc : TypeId × Value -> H) (P : Program) (W : World) (base : Nat) (spare : Nat -> Bool) (held : Bool) (t : TypeId) (r : Rp α) (m : α -> Nat) : Prop :=
 ∀ (fuel : Nat) (cs : List Value) (x : DataW H × List MemPlace), DataW.trod enc P W base spare held fuel t cs = some x -> (∀ n, n ∈ x.1.weights P t -> n <= reachBytes) -> ∃ a : α, r W (fun _ => True) a cs /\ m a <= B x.1
theorem opensB_of (hB : IsBulk B) {t : TypeId} {r : Rp α} (h : Opens enc P W base spare held t r) : OpensB B enc P W base spare held t r fun _ => 1 := fun fuel cs x hx hw => by
 obtain ⟨a, ha⟩ := h fuel cs x hx hw
 exact ⟨a, ha, hB.one _⟩
theorem opensB_str (hB : IsBulk B) {t : TypeId} (ht : P.underlying t = some .string) : OpensB B enc P W base spare held t rStr fun s => s.size + 1 := fun fuel cs x h hw => by
 obtain ⟨s, rfl, rfl, hs⟩ := DataW.trod_string ht h
 have h1 := hw _ (by simp only [DataW.weights]; exact List.mem_cons_self)
 have e : s.data.toList.length = s.size := by rw [Array.length_toList]; rfl
 simp only [e, reachBytes] at h1
 refine ⟨s, ⟨rfl, ?_⟩, ?_⟩
 · omega
 · have := hB.str s.data.toList
   rw [e] at this
   exact this
theorem sum_le {p : α -> Nat} {g : Nat -> Nat} : ∀ {l : List α} {o : Nat}, (∀ i b, l[i]? = some b -> p b <= g (o + i)) -> (l.map p).sum <= ((List.range l.length).map fun i => g (o + i)).sum
 | [], _, _ => by simp
 | a :: l, o, h => by
  rw [List.length_cons, List.range_succ_eq_map, List.map_cons, List.map_cons, List.sum_cons, List.sum_cons, List.map_map]
  have h0 := h 0 a rfl
  have ih := sum_le (p := p) (g := g) (l := l) (o := o + 1) fun i b hb => by
   have := h (i + 1) b hb
   rw [show o + 1 + i = o + (i + 1) by omega]
   exact this
  refine Nat.add_le_add h0 (Nat.le_trans ih (Nat.le_of_eq ?_))
  congr 1
  refine List.map_congr_left fun i _ => ?_
  show g _ = g _
  congr 1
  omega
theorem opensB_slice (hB : IsBulk B) {t e : TypeId} {r : Rp α} {m : α -> Nat} {size : Nat} (ht : P.underlying t = some (.slice e)) (hs : P.cellsOf e = size) {bytes : Nat} (hb : P.bytesOf e = bytes) (he : OpensB B enc P W base spare held e r m) :
  OpensB B enc P W base spare held t (rSl r size bytes) fun xs => (xs.map m).sum + 1 := fun fuel cs x h hw => by
 subst hs
 rcases Deep.open_slice ht h with ⟨rfl, rfl⟩ | ⟨a, len, cap, mm, n, D, Pl, rfl, _, hl, hm, hmm, rfl, hel⟩
 · exact ⟨[], ⟨Sl.nil, rfl, SliceF.nil _ _ _ _, by simp⟩, hB.one _⟩
 · have hlm : len <= mm := by rw [hmm]; split <;> omega
   have hex : ∀ i, i < len -> ∃ b : α, (∃ cs', cs'.length = P.cellsOf e /\ Cells W (a.add (i * P.cellsOf e)) cs' /\ r W (fun _ => True) b cs') /\ m b <= B (D i) := fun i hi => by
    obtain ⟨cs', g1, g2⟩ := hel i (by omega)
    obtain ⟨_, g3, g4⟩ := World.cells?_some g1
    obtain ⟨b, g5, g6⟩ := he n cs' _ g2 fun k hk => hw k (by
     simp only [DataW.weights, ht, List.mem_cons, List.mem_append]
     exact .inr (.inl (weightsAll_mem (List.mem_map.2 ⟨i, List.mem_range.2 hi, rfl⟩) k hk)))
    refine ⟨b, ⟨cs', g3, fun j v hj => ?_, g5⟩, g6⟩
    rw [g4 j (by have := (List.getElem?_eq_some_iff.1 hj).1; omega)]
    exact hj
   obtain ⟨l, h1, h2⟩ := choose_list len hex
   refine ⟨l, ⟨⟨some a, len, cap⟩, rfl, ⟨h1.symm, hl, fun h => (by cases h), hm, fun j x hj => ?_⟩, ?_⟩, ?_⟩
   · obtain ⟨⟨cs', g1, g2, g3⟩, _⟩ := h2 j x hj
     exact ⟨a, cs', rfl, trivial, g1, g2, g3⟩
   · have := hw _ (by simp only [DataW.weights, ht]; exact List.mem_cons_self)
     rw [hb] at this
     simp only [List.length_map, List.length_range, reachBytes] at this
     rw [h1]
     have h3 : len * bytes <= (len + (mm - len)) * bytes := Nat.mul_le_mul_right _ (by omega)
     omega
   · have h3 := hB.sl ((List.range len).map D) ((List.range (mm - len)).map fun j => D (len + j))
     refine Nat.le_trans (Nat.succ_le_succ ?_) h3
     have h4 := sum_le (p := m) (g := fun i => B (D i)) (l := l) (o := 0) fun i b hb => by
      rw [Nat.zero_add]
      exact (h2 i b hb).2
     rw [h1] at h4
     rw [List.map_map]
     simpa [Function.comp_def] using h4
def FOpenB (B : DataW H -> Nat) (enc : TypeId × Value -> H) (P : Program) (W : World) (base : Nat) (spare : Nat -> Bool) (held : Bool) (T off : Nat) (fs : List Field) (r : Rp α) (m : α -> Nat) : Prop :=
 ∀ (n : Nat) (cs : List Value) (xs : List (DataW H × List MemPlace)), cs.length = T -> xs.length = fs.length ->
  (∀ (i : Nat) (f : Field), fs[i]? = some f -> DataW.trod enc P W base spare held n f.type ((cs.drop f.offset).take (P.cellsOf f.type)) = xs[i]?) ->
  (∀ (i : Nat) (f : Field) (x : DataW H × List MemPlace), fs[i]? = some f -> xs[i]? = some x -> ∀ k, k ∈ x.1.weights P f.type -> k <= reachBytes) -> ∃ a : α, r W (fun _ => True) a (cs.drop off) /\ m a <= (xs.map fun x => B x.1).sum
theorem foB_nil {T off : Nat} (h : T = off) : FOpenB B enc P W base spare held T off [] rUnit fun _ => 0 := fun n cs xs hl _ _ _ => ⟨(), by
 show cs.drop off = []
 exact List.drop_eq_nil_of_le (by omega), Nat.zero_le _⟩
theorem foB_cons {T off s : Nat} {f : Field} {fs : List Field} {r : Rp α} {q : Rp β} {m : α -> Nat} {m' : β -> Nat} (ho : f.offset = off) (hs : P.cellsOf f.type = s) (hr : OpensB B enc P W base spare held f.type r m) (hq : FOpenB B enc P W base spare held T (off + s) fs q m') :
  FOpenB B enc P W base spare held T off (f :: fs) (rPair r q) fun x => m x.1 + m' x.2 := fun n cs xs hl hx hf hw => by
 cases xs with
 | nil => simp at hx
 | cons x xs =>
  have h0 := hf 0 f rfl
  rw [ho, hs] at h0
  obtain ⟨a, ha, ha'⟩ := hr n _ x h0 (hw 0 f x rfl rfl)
  obtain ⟨b, hb, hb'⟩ := hq n cs xs hl (by simpa using hx) (fun i g hg => hf (i + 1) g hg) (fun i g y hg hy => hw (i + 1) g y hg hy)
  refine ⟨(a, b), ⟨_, _, by rw [<- List.drop_drop, List.take_append_drop], ha, hb⟩, ?_⟩
  rw [List.map_cons, List.sum_cons]
  exact Nat.add_le_add ha' hb'
theorem opensB_struct (hB : IsBulk B) {t : TypeId} {fs : Array Field} {T : Nat} {r : Rp α} {m : α -> Nat} (ht : P.underlying t = some (.struct fs)) (hT : P.cellsOf t = T) (hF : FOpenB B enc P W base spare held T 0 fs.toList r m) : OpensB B enc P W base spare held t r fun x => m x + 1 := fun fuel cs x h hw => by
 obtain ⟨xs, n, rfl, rfl, hl, hxl, hf⟩ := DataW.trod_struct ht h
 obtain ⟨a, ha, ha'⟩ := hF n cs xs (by omega) (by simpa using hxl) (fun i f hi => hf i f (by simpa using hi)) (fun i f x hi hx k hk => hw k (by
  simp only [DataW.weights, ht]
  refine DataW.weights_mem_each (j := i) ?_ (by rw [List.getElem?_map, hx]; rfl) k hk
  simp only [Array.toList_map, List.getElem?_map, hi]
  rfl))
 refine ⟨a, by simpa using ha, Nat.le_trans (Nat.succ_le_succ ha') ?_⟩
 have := hB.agg (xs.map (·.1))
 rwa [List.map_map] at this
theorem OpensB.map {t : TypeId} {r : Rp α} {q : Rp β} {m : α -> Nat} {m' : β -> Nat} (h : OpensB B enc P W base spare held t r m) (f : α -> β) (hf : ∀ a cs, r W (fun _ => True) a cs -> q W (fun _ => True) (f a) cs /\ m' (f a) <= m a) : OpensB B enc P W base spare held t q m' := fun fuel cs x hx hw => by
 obtain ⟨a, ha, ha'⟩ := h fuel cs x hx hw
 obtain ⟨h1, h2⟩ := hf a cs ha
 exact ⟨f a, h1, Nat.le_trans h2 ha'⟩
theorem argB_struct {t : TypeId} {fs : Array Field} {r : Rp α} {m : α -> Nat} {b0 : Nat} {v : Value} {d : DataW H} {p : List MemPlace} (ht : P.underlying t = some (.struct fs)) (hok : Value.okWide P W .any b0 t v) (h : DataW.Trod enc P W base spare held t v d p)
  (hop : OpensB B enc P W base spare held t r m) (hw : ∀ n, n ∈ d.weights P t -> n <= reachBytes) : ∃ (a : α) (cs : List Value), v = .agg cs.toArray /\ r W (fun _ => True) a cs /\ m a <= B d := by
 obtain ⟨cs, rfl, _⟩ := okWide_struct ht hok
 obtain ⟨fuel, hf⟩ := h
 obtain ⟨a, ha, ha'⟩ := hop fuel _ _ hf hw
 exact ⟨a, cs.toList, by simp, ha, ha'⟩
theorem sum_one : ∀ l : List α, (l.map fun _ => 1).sum = l.length
 | [] => rfl
 | _ :: l => by rw [List.map_cons, List.sum_cons, sum_one l, List.length_cons]; omega
end
end Go.Kt
namespace Go.Proofs.YtfknfhajdiccgaaGreatDoor.Con
open Go Go.RowKit Go.Kt Go.Kt.V Go.Proofs.YtfknfhajdiccgaaGreatDoor.Vc Go.ChangeShapes Go.WideShapes
set_option linter.unusedSimpArgs false
set_option linter.unusedVariables false
set_option maxHeartbeats 4000000
set_option maxRecDepth 100000
def rExU : Rp (Ex × Nat) := fun w F x cs => ∃ d, rEx d w F x.1 cs /\ ∀ e, lenOk e x.1 /\ numOk e x.1 /\ cntM e x.1 <= x.2
theorem lift_l {D : Type} {B : D -> Nat} {Q : Nat -> Ex -> Nat -> Prop} : ∀ (xs : List D) (o : Nat), (∀ j y, xs[j]? = some y -> ∃ e dj, Q (o + j) e dj /\ ∀ d, cntM d e <= B y) ->
  ∃ l : List (Ex × Nat), l.length = xs.length /\ (∀ j p, l[j]? = some p -> Q (o + j) p.1 p.2) /\ ∀ d, cntL (cntM d) (l.map (·.1)) <= (xs.map B).sum
 | [], o, _ => ⟨[], rfl, fun j p h => by simp at h, fun d => Nat.le_refl _⟩
 | x :: xs, o, h => by
  obtain ⟨e, dj, h1, h2⟩ := h 0 x rfl
  obtain ⟨l, h3, h4, h5⟩ := lift_l xs (o + 1) fun j y hj => by
   have := h (j + 1) y hj
   rwa [Nat.add_assoc, Nat.add_comm 1 j]
  refine ⟨(e, dj) :: l, by rw [List.length_cons, List.length_cons, h3], fun j p hj => ?_, fun d => ?_⟩
  · cases j with
    | zero =>
     simp only [List.getElem?_cons_zero, Option.some.injEq] at hj
     subst hj
     exact h1
    | succ j =>
     have := h4 j p hj
     rwa [Nat.add_assoc, Nat.add_comm 1 j] at this
  · rw [List.map_cons, cntL, List.map_cons, List.sum_cons]
    exact Nat.add_le_add (h2 d) (h5 d)
theorem mem_sum {n : Nat} : ∀ {l : List Nat}, n ∈ l -> n <= l.sum
 | [], h => by simp at h
 | x :: l, h => by
  rw [List.sum_cons]
  rcases List.mem_cons.1 h with rfl | h
  · omega
  · have := mem_sum h; omega
theorem le_top : ∀ (l : List (Ex × Nat)), ∃ m, ∀ p, p ∈ l -> p.2 <= m
 | [] => ⟨0, fun p h => by simp at h⟩
 | x :: l => by
  obtain ⟨m, h⟩ := le_top l
  refine ⟨max x.2 m, fun p hp => ?_⟩
  rcases List.mem_cons.1 hp with rfl | hp
  · exact Nat.le_max_left _ _
  · exact Nat.le_trans (h p hp) (Nat.le_max_right _ _)
section
variable {H : Type} {enc : TypeId × Value -> H} {W : World} {base : Nat} {spare : Nat -> Bool} {held : Bool} {B : DataW H -> Nat}
def rTr (enc : TypeId × Value -> H) (W : World) (base : Nat) (spare : Nat -> Bool) (held : Bool) : Rp (DataW H) := fun _ _ x cs => ∃ fuel p, DataW.trod enc Tryz.prog W base spare held fuel 24 cs = some (x, p) /\ ∀ n, n ∈ x.weights Tryz.prog 24 -> n <= reachBytes
theorem opensB_tr (hB : IsBulk B) : OpensB B enc Tryz.prog W base spare held 24 (rTr enc W base spare held) B := fun fuel cs x h hw => ⟨x.1, ⟨fuel, x.2, h, hw⟩, Nat.le_refl _⟩
theorem opensB_one (hB : IsBulk B) : OpensB B enc Tryz.prog W base spare held 24 (rPair rInt (rPair rInt (rPair rStr (rPair rInt (rPair (rSl (rTr enc W base spare held) 6 72) (rPair rInt rUnit))))))
  fun x => (1 + (1 + ((x.2.2.1.size + 1) + (1 + (((x.2.2.2.2.1.map B).sum + 1) + (1 + 0)))))) + 1 := by
 have h := opensB_struct (enc := enc) (P := Tryz.prog) (W := W) (base := base) (spare := spare) (held := held) (T := 6) hB Tryz.underlying24 (by kernel_rfl)
   (foB_cons (s := 1) rfl (by kernel_rfl) (opensB_of hB (opens_int Tryz.underlying3)) (foB_cons (s := 1) rfl (by kernel_rfl) (opensB_of hB (opens_int Tryz.underlying3)) (foB_cons (s := 1) rfl (by kernel_rfl) (opensB_str hB Tryz.underlying9) (foB_cons (s := 1) rfl (by kernel_rfl) (opensB_of hB (opens_int Tryz.underlying3)) (foB_cons (s := 1) rfl (by kernel_rfl) (opensB_slice (size := 6) (bytes := 72) hB Tryz.underlying22 (by kernel_rfl) (by kernel_rfl) (opensB_tr hB)) (foB_cons (s := 1) rfl (by kernel_rfl) (opensB_of hB (opens_int Tryz.underlying3)) (foB_nil rfl)))))))
 exact h
theorem tree_of (hB : IsBulk B) : ∀ (N : Nat) {x : DataW H} {cs : List Value} {F : Nat -> Prop}, B x <= N -> rTr enc W base spare held W F x cs -> ∃ e d, rEx d W (fun _ => True) e cs /\ ∀ d, lenOk d e /\ numOk d e /\ cntM d e <= B x
 | 0, x, cs, F, h, _ => by have := hB.one x; omega
 | N + 1, x, cs, F, h, ⟨fuel, p, ht, hw⟩ => by
  obtain ⟨⟨k, n, s, op, xs, a, u⟩, hr, hm⟩ := opensB_one (enc := enc) (W := W) (base := base) (spare := spare) (held := held) hB fuel cs (x, p) ht hw
  obtain ⟨c1, r1, rfl, ⟨rfl, i1⟩, c2, r2, rfl, ⟨rfl, i2⟩, c3, r3, rfl, ⟨rfl, i3⟩, c4, r4, rfl, ⟨rfl, i4⟩, c5, r5, rfl, ⟨sl, rfl, hsl, _⟩, c6, r6, rfl, ⟨rfl, i6⟩, hu⟩ := hr
  have hu : r6 = [] := hu
  subst hu
  dsimp only at hm hsl i1 i2 i3
  have hsum : ∀ y, y ∈ xs -> B y <= (xs.map B).sum := fun y hy => mem_sum (List.mem_map_of_mem hy)
  obtain ⟨l, l1, l2, l3⟩ := lift_l (B := B) (Q := fun j e dj => ∃ base cs, sl.a = some base /\ cs.length = 6 /\ Cells W (base.add (j * 6)) cs /\ rEx dj W (fun _ => True) e cs /\ ∀ d, lenOk d e /\ numOk d e) xs 0 fun j y hj => by
   rw [Nat.zero_add]
   obtain ⟨bs, ds, g1, g2, g3, g4, g5⟩ := hsl.at_ j y hj
   obtain ⟨e, d, t1, t2⟩ := tree_of hB N (x := y) (by have := hsum y (List.mem_of_getElem? hj); omega) g5
   exact ⟨e, d, ⟨bs, ds, g1, g3, g4, t1, fun d => ⟨(t2 d).1, (t2 d).2.1⟩⟩, fun d => (t2 d).2.2⟩
  obtain ⟨m, hmx⟩ := le_top l
  refine ⟨.mk k n s.data.toList op (l.map (·.1)) a, m + 1, ⟨sl, ?_, ?_⟩, fun d => ?_⟩
  · have e : exv k n s.data.toList op sl a = [.int .i64 k, .int .i64 n, .string s, .int .i64 op, sl.v, .int .i64 a] := by
     show [_, _, Value.string (T s.data.toList), _, _, _] = _
     rw [<- T_of s]
    exact e.symm
  · refine ⟨by rw [Ex.subs, List.length_map, l1]; exact hsl.len, hsl.cap, hsl.nil0, hsl.big, fun j e hj => ?_⟩
    rw [Ex.subs, List.getElem?_map, Option.map_eq_some_iff] at hj
    obtain ⟨q, q1, rfl⟩ := hj
    obtain ⟨bs, ds, g1, g2, g3, g4, g5⟩ := l2 j q q1
    rw [Nat.zero_add] at g3
    exact ⟨bs, ds, g1, trivial, g2, g3, rEx_le (hmx q (List.mem_of_getElem? q1)) g4⟩
  · have hsz : s.data.toList.length = s.size := by rw [Array.length_toList]; rfl
    have all : ∀ e, e ∈ l.map (·.1) -> ∀ d, lenOk d e /\ numOk d e := fun e he => by
     obtain ⟨q, q1, rfl⟩ := List.mem_map.1 he
     obtain ⟨j, hj⟩ := List.getElem?_of_mem q1
     obtain ⟨bs, ds, g1, g2, g3, g4, g5⟩ := l2 j q hj
     exact g5
    cases d with
    | zero => exact ⟨trivial, trivial, Nat.zero_le _⟩
    | succ d =>
     refine ⟨⟨?_, fun y hy => (all y hy d).1⟩, ⟨i2, fun y hy => (all y hy d).2⟩, ?_⟩
     · show s.data.toList.length < _
       rw [hsz]
       omega
     · rw [cntM]
       have := l3 d
       show 1 + cntL (cntM d) (l.map (·.1)) <= _
       omega
theorem opensB_ex (hB : IsBulk B) : OpensB B enc Tryz.prog W base spare held 24 rExU fun x => x.2 := fun fuel cs x h hw => by
 obtain ⟨e, d, h1, h2⟩ := tree_of hB (B x.1) (x := x.1) (F := fun _ => True) (Nat.le_refl _) ⟨fuel, x.2, h, hw⟩
 exact ⟨(e, B x.1), ⟨d, h1, h2⟩, Nat.le_refl _⟩
end
end Go.Proofs.YtfknfhajdiccgaaGreatDoor.Con
namespace Go.Proofs.YtfknfhajdiccgaaGreatDoor.Con
open Go Go.RowKit Go.Kt Go.Kt.V Go.Proofs.YtfknfhajdiccgaaGreatDoor.Vc
set_option linter.unusedSimpArgs false
set_option linter.unusedVariables false
set_option maxHeartbeats 4000000
theorem same6_c {w : World} {F G : Nat -> Prop} {s t : Sl} {l m : List (List UInt8)} (h : SliceF rTx 1 w F s l) (k : SliceF rTx 1 w G t m) :
  Calls Tryz.prog 8 #[s.v, t.v] w fun e w' => e = .returned (.bool (decide (l = m))) /\ Only [] w w' := by
 refine ret (v36w s t (fun v w' => v = .bool (decide (l = m)) /\ Only [] w w') w ?_)
 unfold v36v
 have h1 := h.len
 have h2 := h.cap
 have h3 := h.big
 have k1 := k.len
 refine ⟨fun hc => ?_, fun hc => ?_⟩
 · have hc : ¬ (s.n : Int) = (t.n : Int) := by simpa using hc
   rw [decide_eq_false (fun e => hc (by rw [h1, k1, e]))]
   exact ⟨rfl, Only.refl _ _⟩
 · have hc : (s.n : Int) = (t.n : Int) := by simpa using hc
   have hlm : l.length = m.length := by omega
   refine ⟨fun nv i w' => ∃ n : Nat, n <= l.length /\ i = (n : Int) /\ nv = l.length - n /\ l.take n = m.take n /\ Only [] w w', l.length, ⟨0, Nat.zero_le _, rfl, rfl, by simp, Only.refl _ _⟩, ?_⟩
   rintro nv _ w0 ⟨n, hn, rfl, rfl, he, hO⟩
   refine ⟨fun hlt => ?_, fun hge => ?_⟩
   · have hlt : (n : Int) < (s.n : Int) := of_decide_eq_true hlt
     obtain ⟨p, x, cs, a1, a2, a3, a4, a5, a6⟩ := (SliceF.only rTx_ok (by decide) h hO (by simp)).get (Int.natCast_nonneg n) hlt
     obtain ⟨q, y, ds, b1, b2, b3, b4, b5, b6⟩ := (SliceF.only rTx_ok (by decide) k hO (by simp)).get (i := (n : Int)) (Int.natCast_nonneg n) (by omega)
     rw [Int.toNat_natCast] at a2 b2
     unfold rTx at a6 b6
     subst a6 b6
     refine ⟨p, a1, _, a5, q, b1, _, b5, ?_⟩
     rw [T_eq]
     refine ⟨fun hne w1 hO1 => ?_, fun heq w2 hO2 => ⟨l.length - (n + 1), by omega, n + 1, by omega, by rw [wr' (by omega) (by omega)]; rfl, rfl, ?_, hO.tr0 hO2⟩⟩
     · have hne : x ≠ y := by simpa using hne
       rw [decide_eq_false (fun e => hne (by rw [e, b2] at a2; exact (Option.some.inj a2).symm))]
       exact ⟨rfl, hO.tr0 hO1⟩
     · have heq : x = y := by simpa using heq
       rw [List.take_add_one, List.take_add_one, he, a2, b2, heq]
   · have hge : ¬ (n : Int) < (s.n : Int) := of_decide_eq_false hge
     rw [List.take_of_length_le (by omega), List.take_of_length_le (by omega)] at he
     rw [decide_eq_true he]
     exact ⟨rfl, hO⟩
end Go.Proofs.YtfknfhajdiccgaaGreatDoor.Con
namespace Go.Kt
open Go Go.RowKit Go.MapKept
set_option linter.unusedSimpArgs false
set_option linter.unusedVariables false
structure KeyV {κ : Type} (d : TypeDesc) (kv : κ -> Value) (g : κ -> Prop) : Prop where
 is : ∀ k, IsKey d (kv k)
 inj : ∀ {k l}, kv k = kv l -> k = l
structure MapV {κ : Type} (kv : κ -> Value) (g : κ -> Prop) (w : World) (r : Nat) (m : κ -> Option Value) (n : Nat) : Prop where
 mem : ∃ es clock, w.heap[r]? = some (.map es clock) /\ Stamped es clock /\ es.size <= n /\ (∀ x, x ∈ es.toList -> ∃ k, x.key = kv k /\ g k) /\
  ∀ k v, m k = some v ↔ ∃ x, x ∈ es.toList /\ x.key = kv k /\ x.val = v
section
variable {κ : Type} {d : TypeDesc} {kv : κ -> Value} {g : κ -> Prop} {P : Program} {w w' : World} {r n : Nat} {m : κ -> Option Value} {mty kt et : TypeId}
theorem MapV.keep (h : MapV kv g w r m n) (hk : w'.heap[r]? = w.heap[r]?) : MapV kv g w' r m n := by
 obtain ⟨es, c, h1, h2⟩ := h.mem
 exact ⟨es, c, hk.trans h1, h2⟩
theorem MapV.le (h : MapV kv g w r m n) {n' : Nat} (hn : n <= n') : MapV kv g w r m n' := by
 obtain ⟨es, c, h1, h2, h3, h4⟩ := h.mem
 exact ⟨es, c, h1, h2, Nat.le_trans h3 hn, h4⟩
theorem MapV.lt (h : MapV kv g w r m n) : r < w.heap.size := by
 obtain ⟨es, c, h1, h2⟩ := h.mem
 exact (Array.getElem?_eq_some_iff.1 h1).1
theorem MapV.only (h : MapV kv g w r m n) {bs : List Nat} (hO : Only bs w w') (hn : r ∉ bs) : MapV kv g w' r m n := h.keep (hO.block r h.lt hn)
theorem MapV.ext (h : MapV kv g w r m n) {m' : κ -> Option Value} (he : ∀ k, m' k = m k) : MapV kv g w r m' n := by
 obtain ⟨es, c, h1, h2, h3, h4, h5⟩ := h.mem
 exact ⟨es, c, h1, h2, h3, h4, fun k v => by rw [he, h5]⟩
theorem MapV.ok (h : MapV kv g w r m n) (K : KeyV d kv g) {k : κ} (hk : m k ≠ none) : g k := by
 obtain ⟨es, c, h1, h2, h3, h4, h5⟩ := h.mem
 cases hm : m k with
 | none => exact absurd hm hk
 | some v =>
  obtain ⟨x, hx, e1, _⟩ := (h5 k v).1 hm
  obtain ⟨l, e2, hl⟩ := h4 x hx
  rwa [K.inj (e1.symm.trans e2)]
theorem MapV.make (w : World) : (Instr.makeMap mty none).run P w = .ok (.map (some w.heap.size)) (w.alloc (.map #[] 0)) /\ MapV kv g (w.alloc (.map #[] 0)) w.heap.size (fun _ => none) 0 /\ Only [] w (w.alloc (.map #[] 0)) :=
 ⟨rfl, ⟨#[], 0, heap_alloc_new w _, stamped_empty 0, by simp, by simp, by simp⟩, Only.alloc _ _⟩
theorem keysV (K : KeyV d kv g) {es : Array MapEntry} (h : ∀ x, x ∈ es.toList -> ∃ k, x.key = kv k /\ g k) : ∀ x ∈ es.toList, IsKey d x.key := fun x hx => by
 obtain ⟨k, e, _⟩ := h x hx
 rw [e]; exact K.is k
theorem MapV.lookup (K : KeyV d kv g) (hm : P.underlying mty = some (.map kt et)) (hd : P.underlying kt = some d) {z : Value} (hz : ∀ w, (zeroValue et).run P w = .ok z w) (h : MapV kv g w r m n) (k : κ) :
  (Instr.lookup mty (.map (some r)) (kv k) false).run P w = .ok ((m k).getD z) w := by
 obtain ⟨es, c, h1, h0, hn, h2, h4⟩ := h.mem
 rcases findNow_spec (K.is k) es.toList 0 (keysV K h2) with ⟨g1, g2⟩ | ⟨j, e, g1, g2, g3⟩
 · have hn : m k = none := by
    cases hmk : m k with
    | none => rfl
    | some v =>
     obtain ⟨x, hx, hk, _⟩ := (h4 k v).1 hmk
     exact absurd hk (g2 x hx)
   simp [Instr.lookup, run_underlying hm, MapKept.run_getObj_map h1, MapKept.run_checkKey hd (K.is k), MapKept.run_findKey hd g1, Result.andThen, hz, hn]
 · have he := List.mem_of_getElem? g2
   have hmk : m k = some e.val := (h4 k e.val).2 ⟨e, he, g3, rfl⟩
   simp [Instr.lookup, run_underlying hm, MapKept.run_getObj_map h1, MapKept.run_checkKey hd (K.is k), MapKept.run_findKey hd g1, Result.andThen, hmk]
variable [DecidableEq κ]
theorem MapV.update (K : KeyV d kv g) (hm : P.underlying mty = some (.map kt et)) (hd : P.underlying kt = some d) (h : MapV kv g w r m n) {k : κ} (hg : g k) (v : Value) :
  ∃ w', (Instr.mapUpdate mty (.map (some r)) (kv k) v).run P w = .ok () w' /\ MapV kv g w' r (fun x => if x = k then some v else m x) (if m k = none then n + 1 else n) /\ Only [r] w w' := by
 obtain ⟨es, c, h1, h0, hn, h2, h4⟩ := h.mem
 have fin : ∀ {es' : Array MapEntry} {c' n' : Nat}, Stamped es' c' -> es'.size <= n' -> (∀ x, x ∈ es'.toList -> ∃ k, x.key = kv k /\ g k) ->
   (∀ k' v', (∃ x, x ∈ es'.toList /\ x.key = kv k' /\ x.val = v') ↔ (k' = k /\ v' = v) ∨ (k' ≠ k /\ m k' = some v')) -> ∀ w', w'.heap[r]? = some (.map es' c') -> MapV kv g w' r (fun x => if x = k then some v else m x) n' := by
  intro es' c' n' e0 en e1 e3 w' hw
  refine ⟨es', c', hw, e0, en, e1, fun k' v' => ?_⟩
  rw [e3]
  by_cases hkk : k' = k
  · simp only [hkk, if_true, Option.some.injEq, true_and, ne_eq, not_true_eq_false, false_and, or_false]
    exact ⟨fun h => h.symm, fun h => h.symm⟩
  · simp only [if_neg hkk, hkk, false_and, false_or, ne_eq, not_false_eq_true, true_and, if_false]
 rcases findNow_spec (K.is k) es.toList 0 (keysV K h2) with ⟨g1, g2⟩ | ⟨j, e, g1, g2, g3⟩
 · have hmk : m k = none := by
    cases hq : m k with
    | none => rfl
    | some v =>
     obtain ⟨x, hx, hk, _⟩ := (h4 k v).1 hq
     exact absurd hk (g2 x hx)
   rw [if_pos hmk]
   refine ⟨{ w with heap := w.heap.setIfInBounds r (.map (es.push { key := kv k, val := v, born := c }) (c + 1)) }, ?_, fin (stamped_push h0 g2) (by simp; omega) ?_ ?_ _ (heap_set h1).1, only_set h1⟩
   · simp [Instr.mapUpdate, run_underlying hm, MapKept.run_getObj_map h1, MapKept.run_checkKey hd (K.is k), MapKept.run_findKey hd g1, MapKept.run_setObj_map _ h1, Result.andThen]
   · intro x hx
     simp only [Array.toList_push, List.mem_append, List.mem_singleton] at hx
     rcases hx with hx | rfl
     · exact h2 x hx
     · exact ⟨k, rfl, hg⟩
   · intro k' v'
     simp only [Array.toList_push, List.mem_append, List.mem_singleton]
     constructor
     · rintro ⟨x, hx | rfl, e1, e2⟩
       · exact .inr ⟨fun h => g2 x hx (by rw [e1, h]), (h4 k' v').2 ⟨x, hx, e1, e2⟩⟩
       · exact .inl ⟨(K.inj e1).symm, e2.symm⟩
     · rintro (⟨rfl, rfl⟩ | ⟨hn, h⟩)
       · exact ⟨_, .inr rfl, rfl, rfl⟩
       · obtain ⟨x, hx, e1, e2⟩ := (h4 k' v').1 h
         exact ⟨x, .inl hx, e1, e2⟩
 · have hj : es[j]? = some e := by simpa using g2
   have hjl : j < es.toList.length := (List.getElem?_eq_some_iff.1 g2).1
   have hmk : m k ≠ none := by rw [(h4 k e.val).2 ⟨e, List.mem_of_getElem? g2, g3, rfl⟩]; simp
   have h3 := ((stamped_iff _ _).1 h0).2.2
   rw [if_neg hmk]
   refine ⟨{ w with heap := w.heap.setIfInBounds r (.map (es.modify j fun e => { e with key := kv k, val := v }) c) }, ?_,
    fin (stamped_modify h0 j (fun e => { e with key := kv k, val := v }) (fun _ _ => rfl) (fun e' _ he => by rw [hj] at he; injection he with he; rw [<- he]; exact g3.symm)) (by simpa using hn) ?_ ?_ _ (heap_set h1).1, only_set h1⟩
   · simp [Instr.mapUpdate, run_underlying hm, MapKept.run_getObj_map h1, MapKept.run_checkKey hd (K.is k), MapKept.run_findKey hd g1, hj, g3, MapKept.run_keyThatStays (K.is k), MapKept.run_setObj_map _ h1, Result.andThen]
   all_goals rw [Array.toList_modify, modify_set g2]
   · intro x hx
     rcases List.mem_or_eq_of_mem_set hx with hx | rfl
     · exact h2 x hx
     · exact ⟨k, rfl, hg⟩
   · intro k' v'
     constructor
     · rintro ⟨x, hx, e1, e2⟩
       obtain ⟨i, hi⟩ := List.getElem?_of_mem hx
       rw [List.getElem?_set] at hi
       split at hi
       · injection hi with hi
         rw [<- hi] at e1 e2
         exact .inl ⟨(K.inj e1).symm, e2.symm⟩
       · rename_i hij
         have hxm := List.mem_of_getElem? hi
         by_cases hkk : k' = k
         · have hil := (List.getElem?_eq_some_iff.1 hi).1
           have hne := List.pairwise_iff_getElem.1 h3
           have ex := (List.getElem?_eq_some_iff.1 hi).2
           have ee := (List.getElem?_eq_some_iff.1 g2).2
           exfalso
           rcases Nat.lt_or_gt_of_ne hij with hlt | hgt
           · exact hne j i hjl hil hlt (by rw [ee, ex, g3, e1, hkk])
           · exact hne i j hil hjl hgt (by rw [ee, ex, g3, e1, hkk])
         · exact .inr ⟨hkk, (h4 k' v').2 ⟨x, hxm, e1, e2⟩⟩
     · rintro (⟨rfl, rfl⟩ | ⟨hn, h⟩)
       · exact ⟨_, List.mem_set hjl _, rfl, rfl⟩
       · obtain ⟨x, hx, e1, e2⟩ := (h4 k' v').1 h
         obtain ⟨i, hi⟩ := List.getElem?_of_mem hx
         refine ⟨x, List.mem_of_getElem? (i := i) ?_, e1, e2⟩
         rw [List.getElem?_set_ne]
         · exact hi
         · rintro rfl
           rw [g2] at hi
           injection hi with hi
           rw [<- hi, g3] at e1
           exact hn (K.inj e1).symm
theorem MapV.delete (K : KeyV d kv g) (hm : P.underlying mty = some (.map kt et)) (hd : P.underlying kt = some d) (h : MapV kv g w r m n) (k : κ) (ty : TypeId) :
  ∃ w', (Builtin.delete_ #[mty, kt] ty #[.map (some r), kv k]).run P w = .ok (.tuple #[]) w' /\ MapV kv g w' r (fun x => if x = k then none else m x) n /\ Only [r] w w' := by
 obtain ⟨es, c, h1, h0, hn, h2, h4⟩ := h.mem
 have h3 := ((stamped_iff _ _).1 h0).2.2
 rcases findNow_spec (K.is k) es.toList 0 (keysV K h2) with ⟨g1, g2⟩ | ⟨j, e, g1, g2, g3⟩
 · refine ⟨{ w with heap := w.heap.setIfInBounds r (.map es c) }, ?_, ⟨_, _, (heap_set h1).1, h0, hn, h2, ?_⟩, only_set h1⟩
   · simp [Builtin.delete_, run_underlying hm, MapKept.run_getObj_map h1, MapKept.run_checkKey hd (K.is k), MapKept.run_findKey hd g1, MapKept.run_setObj_map _ h1, Result.andThen]
   · intro k' v'
     by_cases hk : k' = k
     · subst hk
       simp only [if_true]
       constructor
       · intro h; cases h
       · rintro ⟨x, hx, e1, _⟩
         exact absurd e1 (g2 x hx)
     · rw [if_neg hk, h4]
 · have hjl : j < es.toList.length := (List.getElem?_eq_some_iff.1 g2).1
   have hje := (List.getElem?_eq_some_iff.1 g2).2
   have hes : (es.eraseIdxIfInBounds j).toList = es.toList.eraseIdx j := by
    unfold Array.eraseIdxIfInBounds
    rw [dif_pos (by simpa using hjl), Array.toList_eraseIdx]
   have hsz : (es.eraseIdxIfInBounds j).size <= n := by
    rw [<- Array.length_toList, hes]
    exact Nat.le_trans (List.Sublist.length_le (List.eraseIdx_sublist _ _)) (by simpa using hn)
   refine ⟨{ w with heap := w.heap.setIfInBounds r (.map (es.eraseIdxIfInBounds j) c) }, ?_, ⟨_, _, (heap_set h1).1, stamped_erase h0 j, hsz, ?_, ?_⟩, only_set h1⟩
   · simp [Builtin.delete_, run_underlying hm, MapKept.run_getObj_map h1, MapKept.run_checkKey hd (K.is k), MapKept.run_findKey hd g1, MapKept.run_setObj_map _ h1, Result.andThen]
   · rw [hes]
     exact fun x hx => h2 x ((List.eraseIdx_sublist _ _).subset hx)
   · intro k' v'
     rw [hes]
     have hne := List.pairwise_iff_getElem.1 h3
     by_cases hk : k' = k
     · subst hk
       simp only [if_true]
       constructor
       · intro h; cases h
       · rintro ⟨x, hx, e1, _⟩
         rw [List.mem_eraseIdx_iff_getElem] at hx
         obtain ⟨i, hi, hij, hxe⟩ := hx
         rcases Nat.lt_or_gt_of_ne hij with hlt | hgt
         · exact absurd (by rw [hje, hxe, e1, g3]) (hne i j hi hjl hlt)
         · exact absurd (by rw [hje, hxe, e1, g3]) (hne j i hjl hi hgt)
     · rw [if_neg hk, h4]
       constructor
       · rintro ⟨x, hx, e1, e2⟩
         refine ⟨x, ?_, e1, e2⟩
         rw [List.mem_eraseIdx_iff_getElem]
         obtain ⟨i, hi, hxe⟩ := List.getElem_of_mem hx
         refine ⟨i, hi, ?_, hxe⟩
         rintro rfl
         rw [hje] at hxe
         rw [<- hxe, g3] at e1
         exact hk (K.inj e1).symm
       · rintro ⟨x, hx, e1, e2⟩
         exact ⟨x, (List.eraseIdx_sublist _ _).subset hx, e1, e2⟩
end
abbrev kS (s : List UInt8) : Value := .string ⟨s.toArray⟩
abbrev gS (s : List UInt8) : Prop := s.length <= maxLen
theorem keyS : KeyV .string kS gS := ⟨fun _ => trivial, fun h => by simpa using h⟩
abbrev kN (k : Int) : Value := .int .i64 k
theorem keyN : KeyV (.int .i64) kN (fun _ => True) := ⟨fun _ => rfl, fun h => by simpa using h⟩
section
variable {P : Program} {w : World} {r n : Nat} {m : List UInt8 -> Option Value} {kt : TypeId}
open Go.WideElems (Fit rd rg rd_mk rg_of)
theorem MapV.owns (hk : P.underlying kt = some .string) (h : MapV kS gS w r m n) (hn : n <= maxLen) : ∃ D : DataW Nat, World.ownsMap w P kt (fun _ => some (.nil, [])) r n D /\ Go.Maps.size D <= n /\ (Go.strKeys D).Nodup /\ ∀ k, k ∈ Go.strKeys D ↔ (m k).isSome = true := by
 obtain ⟨es, c, h1, h0, hs, h2, h4⟩ := h.mem
 have hkey : ∀ x, x ∈ es.toList -> ∃ k, x.key = kS k /\ keyOf P kt x.key = some (.string k) := fun x hx => by
  obtain ⟨k, e, hg⟩ := h2 x hx
  refine ⟨k, e, ?_⟩
  rw [e]
  have hl : (⟨k.toArray⟩ : ByteArray).size <= maxLen := by
   show k.toArray.size <= maxLen
   simpa using hg
  simp [keyOf, hk, mapKey, kS, hl]
 have hrd : ∀ x, x ∈ es.toList -> ∃ k, x.key = kS k /\ rd P kt (H := Nat) (fun _ => some (.nil, [])) x = some (.string k, .nil) := fun x hx => by
  obtain ⟨k, e, h⟩ := hkey x hx
  exact ⟨k, e, by simp [rd, h]⟩
 have hp : (Go.strKeys (.map ((es.toList.map (rg P kt (H := Nat) fun _ => some (.nil, []))).foldr DataW.insert []))).Perm (es.toList.map fun x => Go.strOf (rg P kt (H := Nat) (fun _ => some (.nil, [])) x).1) := by
  have := (Go.WideShapes.sorted_perm (es.toList.map (rg P kt (H := Nat) fun _ => some (.nil, [])))).map fun p => Go.strOf p.1
  rw [List.map_map] at this
  exact this
 refine ⟨_, ⟨es, c, h1, ⟨Nat.le_trans hs hn, h0, fun x hx => ?_⟩, hs, rfl⟩, ?_, ?_, ?_⟩
 · obtain ⟨k, _, e⟩ := hrd x hx
   exact ⟨_, e⟩
 · rw [Go.Maps.size_eq, (Go.WideShapes.sorted_perm _).length_eq]
   simpa using hs
 · rw [hp.nodup_iff]
   refine List.pairwise_map.2 (((stamped_iff _ _).1 h0).2.2.imp_of_mem ?_)
   intro x y hx hy hxy he
   obtain ⟨k, e1, e2⟩ := hrd x hx
   obtain ⟨l, e3, e4⟩ := hrd y hy
   rw [rg_of e2, rg_of e4] at he
   simp only [Go.strOf] at he
   exact hxy (by rw [e1, e3, he])
 · intro k
   rw [hp.mem_iff, List.mem_map]
   constructor
   · rintro ⟨x, hx, e⟩
     obtain ⟨l, e1, e2⟩ := hrd x hx
     rw [rg_of e2] at e
     simp only [Go.strOf] at e
     subst e
     rw [(h4 l x.val).2 ⟨x, hx, e1, rfl⟩]; rfl
   · intro hs
     obtain ⟨v, hv⟩ := Option.isSome_iff_exists.1 hs
     obtain ⟨x, hx, e1, _⟩ := (h4 k v).1 hv
     obtain ⟨l, e2, e3⟩ := hrd x hx
     refine ⟨x, hx, ?_⟩
     rw [rg_of e3]
     exact keyS.inj (e2.symm.trans e1)
theorem sorted_is {L ss : List (List UInt8)} (hL : L.Pairwise (· < ·)) (hs : ss.Nodup) (he : ∀ k, k ∈ ss ↔ k ∈ L) : ss.mergeSort (fun x y => decide (x <= y)) = L := by
 have hp : ss.Perm L := (List.perm_ext_iff_of_nodup hs (hL.imp fun h e => by subst e; exact absurd h (List.lt_irrefl _))).2 he
 rw [Go.mergeSort_of_perm hp]
 refine List.mergeSort_of_pairwise (hL.imp fun h => ?_)
 simp only [decide_eq_true_eq]
 exact List.le_of_lt h
end
end Go.Kt
namespace Go.Proofs
open Go.Shelf
def Tryz.keysM_ren : Go.Shelf.Ren := ⟨fun | 7 => 13 | 10 => 20 | n => n, fun | 23 => 42 | 26 => 9 | 3 => 4 | 28 => 47 | 0 => 0 | 27 => 46 | 33 => 62 | 4 => 4 | n => n, fun | n => n⟩
theorem Tryz.keysM : Go.Proofs.SlLaysZ.n7 Tryz.prog Tryz.keysM_ren := {
 mixed := by kernel_rfl
 f7 := ⟨Tryz.f13.name, by decide, Tryz.func13.trans (congrArg some (by kernel_rfl))⟩
 f10 := ⟨Tryz.f20.name, by decide, Tryz.func20.trans (congrArg some (by kernel_rfl))⟩
 t0 := Tryz.underlying0
 a0 := Tryz.isAgg0
 z0 := Tryz.sizeOf0
 v0 := Tryz.zeroValue0
 t4 := Tryz.underlying4
 a4 := Tryz.isAgg4
 z4 := Tryz.sizeOf4
 v4 := Tryz.zeroValue4
 t23 := Tryz.underlying42
 a23 := Tryz.isAgg42
 z23 := Tryz.sizeOf42
 v23 := Tryz.zeroValue42
 t26 := Tryz.underlying9
 a26 := Tryz.isAgg9
 z26 := Tryz.sizeOf9
 v26 := Tryz.zeroValue9
 t27 := Tryz.underlying46
 a27 := Tryz.isAgg46
 z27 := Tryz.sizeOf46
 v27 := Tryz.zeroValue46
 t28 := Tryz.underlying47
 a28 := Tryz.isAgg47
 z28 := Tryz.sizeOf47
 v28 := Tryz.zeroValue47
 t33 := Tryz.underlying62
 a33 := Tryz.isAgg62
 z33 := Tryz.sizeOf62
 v33 := Tryz.zeroValue62 }
def Tryz.sortedM_ren : Go.Shelf.Ren := ⟨fun | 6 => 12 | 8 => 18 | 9 => 19 | 11 => 38 | 13 => 40 | 12 => 39 | 23 => 65 | 24 => 66 | 14 => 56 | 15 => 57 | 16 => 58 | 17 => 59 | 18 => 60 | 19 => 61 | 20 => 62 | 21 => 63 | 22 => 64 | 25 => 81 | 26 => 82 | 27 => 83 | 28 => 84 | 29 => 85 | 30 => 86 | 31 => 93 | n => n, fun | 26 => 9 | 28 => 47 | 24 => 26 | 0 => 0 | 3 => 3 | 37 => 89 | 48 => 111 | 50 => 113 | 4 => 4 | 40 => 104 | 39 => 103 | 45 => 108 | 5 => 5 | 9 => 9 | 51 => 123 | 55 => 127 | 57 => 136 | 58 => 137 | 33 => 62 | n => n, fun | n => n⟩
theorem Tryz.sortedM : Go.Proofs.SlLaysZ.n6 Tryz.prog Tryz.sortedM_ren := {
 mixed := by kernel_rfl
 f6 := ⟨Tryz.f12.name, by decide, Tryz.func12.trans (congrArg some (by kernel_rfl))⟩
 f8 := ⟨Tryz.f18.name, by decide, Tryz.func18.trans (congrArg some (by kernel_rfl))⟩
 f11 := ⟨Tryz.f38.name, by decide, Tryz.func38.trans (congrArg some (by kernel_rfl))⟩
 t0 := Tryz.underlying0
 a0 := Tryz.isAgg0
 z0 := Tryz.sizeOf0
 v0 := Tryz.zeroValue0
 t24 := Tryz.underlying26
 a24 := Tryz.isAgg26
 z24 := Tryz.sizeOf26
 v24 := Tryz.zeroValue26
 t26 := Tryz.underlying9
 a26 := Tryz.isAgg9
 z26 := Tryz.sizeOf9
 v26 := Tryz.zeroValue9
 t28 := Tryz.underlying47
 a28 := Tryz.isAgg47
 z28 := Tryz.sizeOf47
 v28 := Tryz.zeroValue47
 i26 := by kernel_rfl }
def Tryz.sortM_ren : Go.Shelf.Ren := ⟨fun | 6 => 19 | 8 => 40 | 9 => 39 | 19 => 65 | 20 => 66 | 21 => 56 | 22 => 57 | 23 => 58 | 24 => 59 | 25 => 60 | 26 => 61 | 27 => 62 | 28 => 63 | 29 => 64 | 36 => 81 | 31 => 82 | 32 => 83 | 37 => 84 | 38 => 85 | 39 => 86 | 41 => 93 | n => n, fun | 27 => 26 | 29 => 9 | 3 => 3 | 32 => 89 | 26 => 26 | 0 => 0 | 44 => 111 | 46 => 113 | 4 => 4 | 36 => 104 | 35 => 103 | 41 => 108 | 5 => 5 | 9 => 9 | 53 => 123 | 57 => 127 | 63 => 136 | 64 => 137 | n => n, fun | n => n⟩
theorem Tryz.sortM : Go.Proofs.SlLaysM.n6 Tryz.prog Tryz.sortM_ren := {
 mixed := by kernel_rfl
 f6 := ⟨Tryz.f19.name, by decide, Tryz.func19.trans (congrArg some (by kernel_rfl))⟩
 f8 := Tryz.func40.trans (congrArg some (by kernel_rfl))
 f9 := ⟨Tryz.f39.name, by decide, Tryz.func39.trans (congrArg some (by kernel_rfl))⟩
 f19 := Tryz.func65.trans (congrArg some (by kernel_rfl))
 f20 := Tryz.func66.trans (congrArg some (by kernel_rfl))
 f21 := ⟨Tryz.f56.name, by decide, Tryz.func56.trans (congrArg some (by kernel_rfl))⟩
 f22 := ⟨Tryz.f57.name, by decide, Tryz.func57.trans (congrArg some (by kernel_rfl))⟩
 f23 := ⟨Tryz.f58.name, by decide, Tryz.func58.trans (congrArg some (by kernel_rfl))⟩
 f24 := ⟨Tryz.f59.name, by decide, Tryz.func59.trans (congrArg some (by kernel_rfl))⟩
 f25 := ⟨Tryz.f60.name, by decide, Tryz.func60.trans (congrArg some (by kernel_rfl))⟩
 f26 := ⟨Tryz.f61.name, by decide, Tryz.func61.trans (congrArg some (by kernel_rfl))⟩
 f27 := ⟨Tryz.f62.name, by decide, Tryz.func62.trans (congrArg some (by kernel_rfl))⟩
 f28 := ⟨Tryz.f63.name, by decide, Tryz.func63.trans (congrArg some (by kernel_rfl))⟩
 f29 := ⟨Tryz.f64.name, by decide, Tryz.func64.trans (congrArg some (by kernel_rfl))⟩
 f31 := Tryz.func82.trans (congrArg some (by kernel_rfl))
 f32 := Tryz.func83.trans (congrArg some (by kernel_rfl))
 f36 := ⟨Tryz.f81.name, by decide, Tryz.func81.trans (congrArg some (by kernel_rfl))⟩
 f37 := ⟨Tryz.f84.name, by decide, Tryz.func84.trans (congrArg some (by kernel_rfl))⟩
 f38 := ⟨Tryz.f85.name, by decide, Tryz.func85.trans (congrArg some (by kernel_rfl))⟩
 f39 := ⟨Tryz.f86.name, by decide, Tryz.func86.trans (congrArg some (by kernel_rfl))⟩
 f41 := ⟨Tryz.f93.name, by decide, Tryz.func93.trans (congrArg some (by kernel_rfl))⟩
 t0 := Tryz.underlying0
 a0 := Tryz.isAgg0
 z0 := Tryz.sizeOf0
 v0 := Tryz.zeroValue0
 t3 := Tryz.underlying3
 a3 := Tryz.isAgg3
 z3 := Tryz.sizeOf3
 v3 := Tryz.zeroValue3
 t4 := Tryz.underlying4
 a4 := Tryz.isAgg4
 z4 := Tryz.sizeOf4
 v4 := Tryz.zeroValue4
 t5 := Tryz.underlying5
 a5 := Tryz.isAgg5
 z5 := Tryz.sizeOf5
 v5 := Tryz.zeroValue5
 t9 := Tryz.underlying9
 a9 := Tryz.isAgg9
 z9 := Tryz.sizeOf9
 v9 := Tryz.zeroValue9
 t26 := Tryz.underlying26
 a26 := Tryz.isAgg26
 z26 := Tryz.sizeOf26
 v26 := Tryz.zeroValue26
 t27 := Tryz.underlying26
 a27 := Tryz.isAgg26
 z27 := Tryz.sizeOf26
 v27 := Tryz.zeroValue26
 t29 := Tryz.underlying9
 a29 := Tryz.isAgg9
 z29 := Tryz.sizeOf9
 v29 := Tryz.zeroValue9
 t32 := Tryz.underlying89
 a32 := Tryz.isAgg89
 z32 := Tryz.sizeOf89
 v32 := Tryz.zeroValue89
 t35 := Tryz.underlying103
 a35 := Tryz.isAgg103
 z35 := Tryz.sizeOf103
 v35 := Tryz.zeroValue103
 t36 := Tryz.underlying104
 a36 := Tryz.isAgg104
 z36 := Tryz.sizeOf104
 v36 := Tryz.zeroValue104
 t41 := Tryz.underlying108
 a41 := Tryz.isAgg108
 z41 := Tryz.sizeOf108
 v41 := Tryz.zeroValue108
 t44 := Tryz.underlying111
 a44 := Tryz.isAgg111
 z44 := Tryz.sizeOf111
 v44 := Tryz.zeroValue111
 t46 := Tryz.underlying113
 a46 := Tryz.isAgg113
 z46 := Tryz.sizeOf113
 v46 := Tryz.zeroValue113
 t53 := Tryz.underlying123
 a53 := Tryz.isAgg123
 z53 := Tryz.sizeOf123
 v53 := Tryz.zeroValue123
 t57 := Tryz.underlying127
 a57 := Tryz.isAgg127
 z57 := Tryz.sizeOf127
 v57 := Tryz.zeroValue127
 t63 := Tryz.underlying136
 a63 := Tryz.isAgg136
 z63 := Tryz.sizeOf136
 v63 := Tryz.zeroValue136
 t64 := Tryz.underlying137
 a64 := Tryz.isAgg137
 z64 := Tryz.sizeOf137
 v64 := Tryz.zeroValue137 }
open Go.RowKit Go.Maps Go.Sort Go.Shelf in
theorem Tryz.sortsM (m : Nat) : AnyZ.SortsIn Tryz.prog Tryz.sortedM_ren Fence.wide m :=
  ⟨fun blk off cap ss W hH hblk hsz => callsIn_wide.2 (AnyM.slices_Sort_string Tryz.sortM blk off cap ss W hH hblk hsz),
   fun p cap W => callsIn_wide.2 (AnyM.slices_Sort_string_none Tryz.sortM p cap W)⟩
open Go.RowKit Go.Maps Go.Sort Go.Shelf in
theorem Tryz.keysM_c (mb : Option Nat) (W : World) : Calls Tryz.prog 13 #[.map mb] W fun e w' => e = .returned (.func (.func 20) #[] #[.pointer (some ⟨W.heap.size, 0, none⟩)]) /\ w' = W.alloc (.cells #[.map mb] 42) :=
 callsIn_wide.1 (AnyZ.keys_in Tryz.keysM Fence.wide 5 trivial rfl mb W)
open Go.RowKit Go.Maps Go.Sort Go.Shelf in
theorem Tryz.sortedM_c {H : Type} (k b nn : Nat) (D0 : DataW H) (R : Value -> Option (DataW H × List MemPlace)) (w : World) (hk : k < w.heap.size) (hm : w.cell? ⟨k, 0, none⟩ = some (.map (some b))) (hown : w.ownsMap Tryz.prog 9 R b nn D0) (hmax : Maps.size D0 <= maxLen) (hbytes : Maps.size D0 * 16 <= 140737488355328) :
  Calls Tryz.prog 12 #[.func (.func 20) #[] #[.pointer (some ⟨k, 0, none⟩)]] w fun e w' => ∃ (v : Value) (ss : List (List UInt8)), e = .returned v /\ ss.Perm (strKeys D0) /\
   w'.ownsRow w.heap.size 9 1 v ss.length ((ss.mergeSort (fun x y => decide (x <= y))).map encStr) /\ (v = .slice none 0 0 ↔ ss = []) /\ Below w.heap.size w w' := by
 have hseq : SeqGives Fence.wide 2 Tryz.prog 20 #[.pointer (some ⟨k, 0, none⟩)] encStr (fun ss => ss.Perm (strKeys D0)) (Maps.size D0) w :=
  AnyZ.keys_gives (ρ := Tryz.keysM_ren) { Tryz.keysM with } Fence.wide _ trivial rfl (by omega) k b nn D0 w hk hm hown
 exact callsIn_wide.1 (AnyZ.sorted_in Tryz.sortedM Fence.wide 5 trivial trivial trivial trivial rfl (by omega) (Tryz.sortsM _) (enters_of Tryz.func19 (by kernel_rfl) rfl) 20 #[.pointer (some ⟨k, 0, none⟩)] trivial (enters_of Tryz.func20 (by kernel_rfl) rfl) _ _ hmax hbytes _ hseq)
end Go.Proofs
namespace Go.Proofs.YtfknfhajdiccgaaGreatDoor.Con
open Go Go.RowKit Go.Kt Go.Kt.V Go.Proofs.YtfknfhajdiccgaaGreatDoor.Vc
set_option linter.unusedSimpArgs false
set_option linter.unusedVariables false
set_option maxHeartbeats 4000000
theorem els_tx (l : List (List UInt8)) (w : World) (F : Nat -> Prop) : Els rTx 1 w F l (l.map fun a => [Value.string (T a)]) := by
 induction l with
 | nil => exact trivial
 | cons a l ih => exact ⟨⟨rfl, rfl⟩, ih⟩
theorem flat_tx (l : List (List UInt8)) : (l.map fun a => [Value.string (T a)]).flatten = l.map Go.Proofs.encStr := by
 induction l with
 | nil => rfl
 | cons a l ih => rw [List.map_cons, List.flatten_cons, ih]; rfl
theorem own_row {B : Nat} {w : World} {v : Value} {l : List (List UInt8)} {n : Nat} (h : w.ownsRow B 9 1 v n (l.map Go.Proofs.encStr)) : ∃ s : Sl, v = s.v /\ Own rTx 1 9 B w (fun _ => False) s l := by
 obtain ⟨hl, h⟩ := h
 rw [List.length_map, Nat.mul_one] at hl
 subst hl
 rcases h with ⟨rfl, hn⟩ | ⟨g, cap, cur, rfl, h1, h2, h3, h4, h5, h6⟩
 · have : l = [] := List.eq_nil_of_length_eq_zero hn
   subst this
   exact ⟨Sl.nil, rfl, Own.nil _ _ _ _ _ _⟩
 · refine ⟨⟨some ⟨g, 0, none⟩, l.length, cap⟩, rfl, .inr ⟨g, _, cur.toList.drop l.length, rfl, h1, ?_, ?_, rfl, h3, ?_, els_tx l w _⟩⟩
   · rw [Nat.mul_one] at h6
     rw [flat_tx, <- h6, List.take_append_drop]
     unfold Blk
     rw [h2]
   · dsimp only
     rw [List.length_drop, Array.length_toList, h5]
     omega
   · have : maxLen = 9223372036854775807 := rfl
     dsimp only
     omega
def itV (k : Nat) : OV := ⟨.func (.func 20) #[] #[.pointer (some ⟨k, 0, none⟩)], rfl⟩
theorem keysM_c (r : Nat) (w : World) : Calls Tryz.prog 13 #[.map (some r)] w fun e w' => e = .returned (itV w.heap.size).v /\ Blk w' w.heap.size 42 [.map (some r)] /\ Only [] w w' /\ w.heap.size < w'.heap.size := by
 refine (Tryz.keysM_c (some r) w).mono ?_
 rintro e w' ⟨rfl, rfl⟩
 exact ⟨rfl, heap_alloc_new w _, Only.alloc _ _, by show _ < (w.heap.push _).size; simp⟩
theorem sortedM_c {w : World} {r n k : Nat} {m : List UInt8 -> Option Value} {L : List (List UInt8)} (h : MapV kS gS w r m n) (hn : n <= 4194304) (hk : Blk w k 42 [.map (some r)]) (hL : L.Pairwise (· < ·)) (he : ∀ a, a ∈ L ↔ (m a).isSome = true) :
  Calls Tryz.prog 12 #[(itV k).v] w fun e w' => ∃ s : Sl, e = .returned s.v /\ Own rTx 1 9 w.heap.size w' (fun _ => False) s L /\ Only [] w w' := by
 obtain ⟨D, h1, h2, h3, h4⟩ := h.owns (P := Tryz.prog) (kt := 9) (by kernel_rfl) (by have : maxLen = 9223372036854775807 := rfl; omega)
 refine (Tryz.sortedM_c k r n D _ w hk.lt (hk.cell 0) h1 (by have : maxLen = 9223372036854775807 := rfl; omega) (by omega)).mono ?_
 rintro e w' ⟨v, ss, rfl, k1, k2, k3, k4⟩
 have hs : ss.Nodup := k1.nodup_iff.2 h3
 rw [sorted_is hL hs fun a => by rw [k1.mem_iff, h4, he]] at k2
 obtain ⟨s, rfl, ho⟩ := own_row k2
 exact ⟨s, rfl, ho, Only.of_below k4⟩
end Go.Proofs.YtfknfhajdiccgaaGreatDoor.Con
