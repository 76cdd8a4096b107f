
/-
  Own work: a walk by reckoning, part 2: operations that only reckon ('pur'), what is asked of each, and that it suffices. No program in sight.
-/
import Derived.Test.YtmanockofcopjaaGreatDoorV1
namespace Go.Kt.V
open Go Go.RowKit Go.Kt
set_option linter.unusedSimpArgs false
set_option linter.unusedVariables false

def elimO {α : Type} (o : Option α) (K : α → Prop) : Prop := match o with
  | some v => K v
  | none => False
theorem elimO_ex {α : Type} {o : Option α} {K : α → Prop} (h : elimO o K) : ∃ v, o = some v ∧ K v := by
  cases o with
  | none => exact h.elim
  | some v => exact ⟨v, rfl, h⟩
/-- under these tests -/
def gi : List (Bool × Bool) → Prop → Prop
  | [], p => p
  | (t, b) :: r, p => t = b → gi r p
def gh : List (Bool × Bool) → Prop
  | [] => True
  | (t, b) :: r => t = b ∧ gh r
theorem gi_use : ∀ {gs : List (Bool × Bool)} {p : Prop}, gi gs p → gh gs → p
  | [], _, h, _ => h
  | (t, b) :: r, p, h, k => gi_use (gs := r) (h k.1) k.2

/-! ### shapes -/
inductive Lf where
  | int (k : IntKind)
  | bool
  | str
  | ptr
  | sl
  | map
  | raw
def Lf.T : Lf → Type
  | .int _ => Int
  | .bool => Bool
  | .str => ByteArray
  | .ptr => Option Addr
  | .sl => Sl
  | .map => Option Nat
  | .raw => OV
def Lf.sv : (l : Lf) → l.T → SV
  | .int k, x => .int k x
  | .bool, x => .bt x
  | .str, x => .str x
  | .ptr, x => .ptr x
  | .sl, x => .sl x
  | .map, x => .map x
  | .raw, x => .raw x
theorem Lf.cln (g : Nat → Bool) (l : Lf) (x : l.T) : V.cln g (l.sv x) = true := by cases l <;> rfl
def exl : List Lf → (List SV → Prop) → Prop
  | [], K => K []
  | l :: r, K => ∃ x : l.T, exl r fun vs => K (l.sv x :: vs)
theorem exl_ex : ∀ {ls : List Lf} {K : List SV → Prop}, exl ls K → ∃ vs, K vs ∧ vs.length = ls.length ∧ ∀ g, clns g vs = true
  | [], K, h => ⟨[], h, rfl, fun _ => rfl⟩
  | l :: r, K, h => by
    obtain ⟨x, h⟩ := h
    obtain ⟨vs, h1, h2, h3⟩ := exl_ex (ls := r) h
    exact ⟨_, h1, by simp [h2], fun g => by simp only [clns, Lf.cln, h3 g, Bool.and_true]⟩
def lfOf : TypeDesc → Lf
  | .int k => .int k
  | .bool => .bool
  | .string => .str
  | .pointer _ => .ptr
  | .slice _ => .sl
  | .map _ _ => .map
  | _ => .raw
def rep {α : Type} : Nat → List α → List α
  | 0, _ => []
  | n + 1, l => l ++ rep n l
def flat {α β : Type} (f : α → List β) : List α → List β
  | [] => []
  | x :: r => f x ++ flat f r
def shC (P : Program) : Nat → TypeId → List Lf
  | 0, _ => []
  | n + 1, t => match P.underlying t with
    | some (.struct fs) => flat (fun f : Field => shC P n f.type) fs.toList
    | some (.array len e) => rep len (shC P n e)
    | some d => [lfOf d]
    | none => []
def isAg : TypeDesc → Bool
  | .struct _ => true
  | .array _ _ => true
  | _ => false
/-- a value out of its cells -/
def ofC (ag : Bool) (l : List SV) : SV := bif ag then .agg (ofL l) else l.headD .un
def β0 : Nat → Nat := fun _ => 0

/-! ### values by what they are -/
def oint : SV → Option (IntKind × Int)
  | .int k n => some (k, n)
  | .il k n => some (k, n)
  | _ => none
theorem oint_val {s : SV} {k : IntKind} {n : Int} (h : oint s = some (k, n)) (β : Nat → Nat) : val β s = .int k n := by
  cases s <;> simp only [oint, Option.some.injEq, Prod.mk.injEq, reduceCtorEq] at h
  all_goals obtain ⟨rfl, rfl⟩ := h; rfl
def obool : SV → Option Bool
  | .bl b => some b
  | .bt b => some b
  | _ => none
theorem obool_val {s : SV} {b : Bool} (h : obool s = some b) (β : Nat → Nat) : val β s = .bool b := by
  cases s <;> simp only [obool, Option.some.injEq, reduceCtorEq] at h
  all_goals subst h; rfl
def ostr : SV → Option ByteArray
  | .str s => some s
  | _ => none
theorem ostr_val {s : SV} {b : ByteArray} (h : ostr s = some b) (β : Nat → Nat) : val β s = .string b := by
  cases s <;> simp only [ostr, Option.some.injEq, reduceCtorEq] at h
  all_goals subst h; rfl
def osl : SV → Option Sl
  | .sl s => some s
  | .nsl => some Sl.nil
  | _ => none
theorem osl_val {s : SV} {b : Sl} (h : osl s = some b) (β : Nat → Nat) : val β s = b.v := by
  cases s <;> simp only [osl, Option.some.injEq, reduceCtorEq] at h
  all_goals subst h; rfl

def ib (op : BinOp) (k : IntKind) (m n : Int) : Option SV := match op with
  | .add => some (.int k (k.wrap (m + n)))
  | .sub => some (.int k (k.wrap (m - n)))
  | .mul => some (.int k (k.wrap (m * n)))
  | .eql => some (.bt (m == n))
  | .neq => some (.bt (m != n))
  | .lss => some (.bt (decide (m < n)))
  | .leq => some (.bt (decide (m ≤ n)))
  | .gtr => some (.bt (decide (m > n)))
  | .geq => some (.bt (decide (m ≥ n)))
  | .and => some (.int k (bits .and k m n))
  | .or => some (.int k (bits .or k m n))
  | .xor => some (.int k (bits .xor k m n))
  | .andNot => some (.int k (bits .andNot k m n))
  | _ => none
def sb (op : BinOp) (s u : ByteArray) : Option SV := match op with
  | .eql => some (.bt (s.toList == u.toList))
  | .neq => some (.bt (!(s.toList == u.toList)))
  | .lss => some (.bt (Op.bytesLess s.toList u.toList))
  | .geq => some (.bt (!(Op.bytesLess s.toList u.toList)))
  | .leq => some (.bt (Op.bytesLess s.toList u.toList || (s.toList == u.toList)))
  | .gtr => some (.bt (!(Op.bytesLess s.toList u.toList || (s.toList == u.toList))))
  | _ => none
/-- a number that is not nought, or is shown not to be -/
def nz (gs : List (Bool × Bool)) (b : SV) (n : Int) (K : Prop) : Prop := match b with
  | .il _ _ => bif n == 0 then False else K
  | _ => gi gs (n ≠ 0) ∧ K
def ge0 (gs : List (Bool × Bool)) (b : SV) (n : Int) (K : Prop) : Prop := match b with
  | .il _ _ => bif decide (0 ≤ n) then K else False
  | _ => gi gs (0 ≤ n) ∧ K
def opn : SV → Option (Option Addr)   -- a pointer, none of the walk's own
  | .np => some none
  | .ptr p => some p
  | .ad a => some (some a)
  | _ => none
theorem opn_val {s : SV} {p : Option Addr} (h : opn s = some p) (β : Nat → Nat) : val β s = .pointer p := by
  cases s <;> simp only [opn, Option.some.injEq, reduceCtorEq] at h
  all_goals subst h; rfl
def isS : TypeDesc → Bool
  | .slice _ => true
  | _ => false
/-- a pointer against nil -/
def pn (op : BinOp) (a : SV) : Option SV := match op, a with
  | .eql, .ptr p => some (.bt p.isNone)
  | .neq, .ptr p => some (.bt (!p.isNone))
  | .eql, .ad _ => some (.bl false)
  | .neq, .ad _ => some (.bl true)
  | .eql, .box _ _ => some (.bl false)
  | .neq, .box _ _ => some (.bl true)
  | .eql, .np => some (.bl true)
  | .neq, .np => some (.bl false)
  | _, _ => none
def sn (op : BinOp) (s : Sl) : Option SV := match op with
  | .eql => some (.bt s.a.isNone)
  | .neq => some (.bt (!s.a.isNone))
  | _ => none
def isNp : SV → Bool
  | .np => true
  | _ => false
def isNsl : SV → Bool
  | .nsl => true
  | _ => false
/-- one cell against another one -/
def eq1 (P : Program) (t : TypeId) (x y : SV) : Option Bool := match P.underlying t with
  | some (.int _) => (match oint x, oint y with
    | some (k, m), some (k', n) => bif decide (k = k') then some (m == n) else none
    | _, _ => none)
  | some .string => (match ostr x, ostr y with
    | some s, some u => some (s == u)
    | _, _ => none)
  | some .bool => (match obool x, obool y with
    | some s, some u => some (s == u)
    | _, _ => none)
  | _ => none
def eqFs (P : Program) (xs ys : List SV) : List Field → Option Bool
  | [] => some true
  | f :: r => bif f.name == "_" then none else match xs[f.offset]?, ys[f.offset]? with
    | some x, some y => (match eq1 P f.type x y, eqFs P xs ys r, r with
      | some b, some _, [] => some b
      | some b, some c, _ => some (b && c)
      | _, _, _ => none)
    | _, _ => none
/-- struct against struct -/
def eqSt (P : Program) (t : TypeId) (fs : Array Field) (a b : SV) : Option Bool := match a, b with
  | .agg l, .agg m => bif isL l && isL m && !P.stoodInHeld t && !P.eqGuardType P.depth t then eqFs P (toL l) (toL m) fs.toList else none
  | _, _ => none
def eqOp (op : BinOp) (b : Bool) : Option SV := match op with
  | .eql => some (.bt b)
  | .neq => some (.bt (!b))
  | _ => none
def binP (P : Program) (gs : List (Bool × Bool)) (op : BinOp) (t : TypeId) (a b : SV) (K : SV → Prop) : Prop :=
  match oint a, oint b with
  | some (k, m), some (k', n) => (match op with
    | .shl => ge0 gs b n (K (.int k (k.wrap (m * 2 ^ (min n.toNat k.bits)))))
    | .shr => ge0 gs b n (K (.int k (m.fdiv (2 ^ (min n.toNat k.bits)))))
    | .quo => bif decide (k = k') then nz gs b n (K (.int k (k.wrap (m.tdiv n)))) else False
    | .rem => bif decide (k = k') then nz gs b n (K (.int k (m.tmod n))) else False
    | _ => bif decide (k = k') then elimO (ib op k m n) K else False)
  | _, _ => match ostr a, ostr b with
    | some s, some u => (match op with
      | .add => gi gs ((s.size : Int) + u.size ≤ 9223372036854775807) ∧ K (.str (s ++ u))
      | _ => elimO (sb op s u) K)
    | _, _ => match obool a, obool b, P.underlying t with
      | some s, some u, some .bool => (match op with
        | .eql => K (.bt (s == u))
        | .neq => K (.bt (!(s == u)))
        | _ => False)
      | _, _, _ => match P.underlying t with
        | some (.pointer _) => bif isNp b then elimO (pn op a) K else bif isNp a then elimO (pn op b) K else False
        | some (.slice _) => bif isNsl b then elimO ((osl a).bind (sn op)) K else bif isNsl a then elimO ((osl b).bind (sn op)) K else False
        | some (.struct fs) => elimO (eqSt P t fs a b) fun r => elimO (eqOp op r) K
        | _ => False

/-! ### that it suffices -/
section
variable {P : Program} {gs : List (Bool × Bool)} {K : SV → Prop}
theorem nz_ok {b : SV} {k : IntKind} {n : Int} {K : Prop} (hb : oint b = some (k, n)) (h : nz gs b n K) : K ∧ (gh gs → n ≠ 0) := by
  unfold nz at h
  split at h
  · cases hn : (n == 0) with
    | true => rw [hn] at h; exact h.elim
    | false => rw [hn] at h; exact ⟨h, fun _ => by simpa using hn⟩
  · exact ⟨h.2, fun g => gi_use h.1 g⟩
theorem ge0_ok {b : SV} {n : Int} {K : Prop} (h : ge0 gs b n K) : K ∧ (gh gs → 0 ≤ n) := by
  unfold ge0 at h
  split at h
  · by_cases hn : 0 ≤ n
    · rw [decide_eq_true hn] at h; exact ⟨h, fun _ => hn⟩
    · rw [decide_eq_false hn] at h; exact h.elim
  · exact ⟨h.2, fun g => gi_use h.1 g⟩
theorem bif_ok {b : Bool} {p : Prop} (h : bif b then p else False) : b = true ∧ p := by
  cases b with
  | true => exact ⟨rfl, h⟩
  | false => exact h.elim
/-- the operation yields this, at any frame that reads so -/
def BinRuns (P : Program) (op : BinOp) (t : TypeId) (a b v : SV) : Prop :=
  ∀ (β : Nat → Nat) (act : Act) (x y : Operand) (dst : Option Tmp) (ty t' : TypeId) (p : String) (af : Array Edge) (g : Option (Nat × Bool)) (w : World), act.eval x = val β a → act.eval y = val β b →
    (execOp act.eval ⟨dst, .binOp op t x y ty, t', p, af, g⟩).run P w = .ok (.value (val β v)) w
theorem ib_ok {op : BinOp} {t : TypeId} {a b v : SV} {k : IntKind} {m n : Int} (ha : oint a = some (k, m)) (hb : oint b = some (k, n)) (h : ib op k m n = some v) : BinRuns P op t a b v := by
  intro β act x y dst ty t' p af g w hx hy
  rw [oint_val ha] at hx
  rw [oint_val hb] at hy
  cases op <;> simp only [ib, Option.some.injEq, reduceCtorEq] at h
  all_goals subst h; simp only [execOp, hx, hy]; cases k <;> rfl
theorem sb_ok {op : BinOp} {t : TypeId} {a b v : SV} {s u : ByteArray} (ha : ostr a = some s) (hb : ostr b = some u) (h : sb op s u = some v) : BinRuns P op t a b v := by
  intro β act x y dst ty t' p af g w hx hy
  rw [ostr_val ha] at hx
  rw [ostr_val hb] at hy
  cases op <;> simp only [sb, Option.some.injEq, reduceCtorEq] at h
  all_goals subst h; simp only [execOp, hx, hy]; rfl
theorem pn_ok {op : BinOp} {t e : TypeId} {a b v : SV} (hu : P.underlying t = some (.pointer e)) (hb : isNp b = true) (h : pn op a = some v) : BinRuns P op t a b v ∧ BinRuns P op t b a v := by
  have hbv : ∀ β, val β b = .pointer none := fun β => by
    unfold isNp at hb
    split at hb
    · rfl
    · cases hb
  have key : ∀ (β : Nat → Nat), ∃ (q : Option Addr) (r : Bool), val β a = .pointer q ∧ val β v = .bool r ∧ ((op = .eql ∧ q.isNone = r) ∨ (op = .neq ∧ (!q.isNone) = r)) := by
    intro β
    unfold pn at h
    split at h <;> simp only [Option.some.injEq, reduceCtorEq] at h <;> subst h
    · exact ⟨_, _, rfl, rfl, .inl ⟨rfl, rfl⟩⟩
    · exact ⟨_, _, rfl, rfl, .inr ⟨rfl, rfl⟩⟩
    · exact ⟨_, _, rfl, rfl, .inl ⟨rfl, rfl⟩⟩
    · exact ⟨_, _, rfl, rfl, .inr ⟨rfl, rfl⟩⟩
    · exact ⟨_, _, rfl, rfl, .inl ⟨rfl, rfl⟩⟩
    · exact ⟨_, _, rfl, rfl, .inr ⟨rfl, rfl⟩⟩
    · exact ⟨_, _, rfl, rfl, .inl ⟨rfl, rfl⟩⟩
    · exact ⟨_, _, rfl, rfl, .inr ⟨rfl, rfl⟩⟩
  constructor
  · intro β act x y dst ty t' p af g w hx hy
    obtain ⟨q, r, h1, h2, h3⟩ := key β
    rw [h1] at hx
    rw [hbv] at hy
    rw [h2]
    rcases h3 with ⟨rfl, h3⟩ | ⟨rfl, h3⟩
    · exact r_eqlPtrNilR (run_underlying hu w) hx hy h3
    · exact r_neqPtrNilR (run_underlying hu w) hx hy h3
  · intro β act x y dst ty t' p af g w hx hy
    obtain ⟨q, r, h1, h2, h3⟩ := key β
    rw [h1] at hy
    rw [hbv] at hx
    rw [h2]
    rcases h3 with ⟨rfl, h3⟩ | ⟨rfl, h3⟩
    · exact r_eqlPtrNilL (run_underlying hu w) hx hy h3
    · exact r_neqPtrNilL (run_underlying hu w) hx hy h3
theorem sn_ok {op : BinOp} {t e : TypeId} {a b v : SV} (hu : P.underlying t = some (.slice e)) (hb : isNsl b = true) (h : (osl a).bind (sn op) = some v) : BinRuns P op t a b v ∧ BinRuns P op t b a v := by
  have hbv : ∀ β, val β b = .slice none 0 0 := fun β => by
    unfold isNsl at hb
    split at hb
    · rfl
    · cases hb
  cases hs : osl a with
  | none => rw [hs] at h; cases h
  | some s =>
    rw [hs] at h
    simp only [Option.bind_some] at h
    constructor
    · intro β act x y dst ty t' p af g w hx hy
      rw [osl_val hs] at hx
      rw [hbv] at hy
      cases op <;> simp only [sn, Option.some.injEq, reduceCtorEq] at h <;> subst h
      · exact r_eqlSlNilR (run_underlying hu w) hx hy
      · exact r_neqSlNilR (run_underlying hu w) hx hy
    · intro β act x y dst ty t' p af g w hx hy
      rw [osl_val hs] at hy
      rw [hbv] at hx
      cases op <;> simp only [sn, Option.some.injEq, reduceCtorEq] at h <;> subst h
      · exact r_eqlSlNilL (run_underlying hu w) hx hy
      · exact r_neqSlNilL (run_underlying hu w) hx hy
theorem eq1_run {t : TypeId} {x y : SV} {b : Bool} (h : eq1 P t x y = some b) (β : Nat → Nat) (d : Nat) (w : World) : P.plainKey t = true ∧ (Op.equalIn (d + 1) t (val β x) (val β y)).run P w = .ok b w := by
  unfold eq1 at h
  split at h
  · rename_i k hu
    refine ⟨by simp [Program.plainKey, hu], ?_⟩
    split at h
    · rename_i k1 m k2 n hx hy
      cases hk : decide (k1 = k2) with
      | false => rw [hk] at h; cases h
      | true =>
        rw [hk] at h
        injection h with h
        subst h
        have hk := of_decide_eq_true hk
        subst hk
        rw [oint_val hx, oint_val hy]
        simp [Op.equalIn, run_underlying hu]
    · cases h
  · rename_i hu
    refine ⟨by simp [Program.plainKey, hu], ?_⟩
    split at h
    · rename_i s u hx hy
      injection h with h
      subst h
      rw [ostr_val hx, ostr_val hy]
      simp [Op.equalIn, run_underlying hu]
    · cases h
  · rename_i hu
    refine ⟨by simp [Program.plainKey, hu], ?_⟩
    split at h
    · rename_i s u hx hy
      injection h with h
      subst h
      rw [obool_val hx, obool_val hy]
      simp [Op.equalIn, run_underlying hu]
    · cases h
  · cases h
theorem eqFs_run {xs ys : List SV} (β : Nat → Nat) (d : Nat) (w : World) : ∀ {fs : List Field} {b : Bool}, eqFs P xs ys fs = some b → (Op.eqFields (d + 1) (vals β xs).toArray (vals β ys).toArray fs).run P w = .ok b w
  | [], b, h => by
    simp only [eqFs, Option.some.injEq] at h
    subst h
    simp [Op.eqFields]
  | f :: r, b, h => by
    unfold eqFs at h
    cases hn : (f.name == "_") with
    | true => rw [hn] at h; cases h
    | false =>
      rw [hn, cond_false] at h
      have hn : f.name ≠ "_" := by simpa using hn
      split at h
      · rename_i x y hx hy
        have px : (vals β xs).toArray[f.offset]? = some (val β x) := by simp [vals, hx]
        have py : (vals β ys).toArray[f.offset]? = some (val β y) := by simp [vals, hy]
        have go : ∀ {b1 c : Bool}, eq1 P f.type x y = some b1 → eqFs P xs ys r = some c → (Op.eqFields (d + 1) (vals β xs).toArray (vals β ys).toArray (f :: r)).run P w = .ok (b1 && c) w := fun {b1 c} h1 h2 => by
          obtain ⟨k1, k2⟩ := eq1_run h1 β d w
          have k3 := eqFs_run β d w h2
          simp only [Op.eqFields, hn, ne_eq, not_false_eq_true, if_true, Sem.run_bind, run_part_plain w k1 px, run_part_plain w k1 py, k2, Result.andThen_ok]
          cases b1
          · simp
          · simpa using k3
        split at h
        · rename_i b1 c h1 h2
          injection h with h
          subst h
          have := go h1 h2
          simp only [eqFs, Option.some.injEq] at h2
          subst h2
          rwa [Bool.and_true] at this
        · rename_i b1 c h1 _ h2
          injection h with h
          subst h
          exact go h1 h2
        · cases h
      · cases h
theorem eqSt_ok {op : BinOp} {t : TypeId} {fs : Array Field} {a b v : SV} {r : Bool} (hu : P.underlying t = some (.struct fs)) (h : eqSt P t fs a b = some r) (hv : eqOp op r = some v) : BinRuns P op t a b v := by
  unfold eqSt at h
  split at h
  · rename_i l m
    obtain ⟨h0, h⟩ : (isL l && isL m && !P.stoodInHeld t && !P.eqGuardType P.depth t) = true ∧ eqFs P (toL l) (toL m) fs.toList = some r := by
      cases hc : (isL l && isL m && !P.stoodInHeld t && !P.eqGuardType P.depth t) with
      | true => rw [hc] at h; exact ⟨rfl, h⟩
      | false => rw [hc] at h; cases h
    simp only [Bool.and_eq_true, Bool.not_eq_true'] at h0
    obtain ⟨⟨⟨h1, h2⟩, h3⟩, h4⟩ := h0
    intro β act x y dst ty t' p af g w hx hy
    have ea : ∀ {l : SV}, isL l = true → val β (.agg l) = .agg (vals β (toL l)).toArray := fun hl => by
      show Value.agg (cvs β _).toArray = _
      rw [cvs_toL β hl]
    rw [ea h1] at hx
    rw [ea h2] at hy
    have hfs : P.fieldsOf t = fs := by simp [Program.fieldsOf, hu]
    have hE : (Op.equalIn 10000 t (.agg (vals β (toL l)).toArray) (.agg (vals β (toL m)).toArray)).run P w = .ok r w := by
      rw [show (10000 : Nat) = 9999 + 1 from rfl, run_equalIn_struct w 9999 t _ _ (by rw [hfs]; exact hu) h3, hfs]
      exact eqFs_run β 9998 w h
    have hG : ∀ op : BinOp, (eqGuard op t x y (.agg (vals β (toL l)).toArray) (.agg (vals β (toL m)).toArray)).run P w = .ok () w := fun op => by
      unfold eqGuard
      cases op <;> simp [run_program, h4]
    unfold eqOp at hv
    split at hv
    · injection hv with hv
      subst hv
      have hB : binOp .eql t (.agg (vals β (toL l)).toArray) (.agg (vals β (toL m)).toArray) = (do pure (.bool (← Op.equal t (.agg (vals β (toL l)).toArray) (.agg (vals β (toL m)).toArray)))) := rfl
      simp only [execOp, hx, hy, hB, Op.equal, Op.maxDepth, Sem.run_bind, Sem.run_pure, Result.andThen_ok, hE, hG]
      rfl
    · injection hv with hv
      subst hv
      have hB : binOp .neq t (.agg (vals β (toL l)).toArray) (.agg (vals β (toL m)).toArray) = (do pure (.bool (!(← Op.equal t (.agg (vals β (toL l)).toArray) (.agg (vals β (toL m)).toArray))))) := rfl
      simp only [execOp, hx, hy, hB, Op.equal, Op.maxDepth, Sem.run_bind, Sem.run_pure, Result.andThen_ok, hE, hG]
      rfl
    · cases hv
  · cases h
theorem binP_ok {op : BinOp} {t : TypeId} {a b : SV} (h : binP P gs op t a b K) : ∃ v, K v ∧ (gh gs → BinRuns P op t a b v) := by
  unfold binP at h
  split at h
  · rename_i k m k' n ha hb
    have gen : ∀ {K : SV → Prop}, (bif decide (k = k') then elimO (ib op k m n) K else False) → ∃ v, K v ∧ (gh gs → BinRuns P op t a b v) := fun h => by
      obtain ⟨hk0, h1⟩ := bif_ok h
      clear h
      have hk := of_decide_eq_true hk0
      clear hk0
      subst hk
      obtain ⟨v, hv, hK⟩ := elimO_ex h1
      exact ⟨v, hK, fun _ => ib_ok ha hb hv⟩
    split at h
    · obtain ⟨h, hn⟩ := ge0_ok h
      exact ⟨_, h, fun g β act x y dst ty t' p af gg w hx hy => r_shl (by rw [hx, oint_val ha]) (by rw [hy, oint_val hb]) (hn g)⟩
    · obtain ⟨h, hn⟩ := ge0_ok h
      exact ⟨_, h, fun g β act x y dst ty t' p af gg w hx hy => r_shr (by rw [hx, oint_val ha]) (by rw [hy, oint_val hb]) (hn g)⟩
    · obtain ⟨hk0, h1⟩ := bif_ok h
      clear h
      have hk := of_decide_eq_true hk0
      clear hk0
      subst hk
      obtain ⟨h2, hn⟩ := nz_ok hb h1
      exact ⟨_, h2, fun g β act x y dst ty t' p af gg w hx hy => r_quo (by rw [hx, oint_val ha]) (by rw [hy, oint_val hb]) (hn g)⟩
    · obtain ⟨hk0, h1⟩ := bif_ok h
      clear h
      have hk := of_decide_eq_true hk0
      clear hk0
      subst hk
      obtain ⟨h2, hn⟩ := nz_ok hb h1
      exact ⟨_, h2, fun g β act x y dst ty t' p af gg w hx hy => r_rem (by rw [hx, oint_val ha]) (by rw [hy, oint_val hb]) (hn g)⟩
    · exact gen h
  · split at h
    · rename_i s u ha hb
      split at h
      · exact ⟨_, h.2, fun g β act x y dst ty t' p af gg w hx hy => r_strAdd (by rw [hx, ostr_val ha]) (by rw [hy, ostr_val hb]) (gi_use h.1 g)⟩
      · obtain ⟨v, hv, hK⟩ := elimO_ex h
        exact ⟨v, hK, fun _ => sb_ok ha hb hv⟩
    · split at h
      · rename_i s u ha hb hu
        split at h
        · exact ⟨_, h, fun g β act x y dst ty t' p af gg w hx hy => r_eqlBool hu (by rw [hx, obool_val ha]) (by rw [hy, obool_val hb])⟩
        · exact ⟨_, h, fun g β act x y dst ty t' p af gg w hx hy => r_neqBool hu (by rw [hx, obool_val ha]) (by rw [hy, obool_val hb])⟩
        · exact h.elim
      · split at h
        · rename_i e hu
          cases hb : isNp b with
          | true =>
            rw [hb] at h
            obtain ⟨v, hv, hK⟩ := elimO_ex h
            exact ⟨v, hK, fun _ => (pn_ok hu hb hv).1⟩
          | false =>
            rw [hb] at h
            obtain ⟨ha, h⟩ := bif_ok h
            obtain ⟨v, hv, hK⟩ := elimO_ex h
            exact ⟨v, hK, fun _ => (pn_ok hu ha hv).2⟩
        · rename_i e hu
          cases hb : isNsl b with
          | true =>
            rw [hb] at h
            obtain ⟨v, hv, hK⟩ := elimO_ex h
            exact ⟨v, hK, fun _ => (sn_ok hu hb hv).1⟩
          | false =>
            rw [hb] at h
            obtain ⟨ha, h⟩ := bif_ok h
            obtain ⟨v, hv, hK⟩ := elimO_ex h
            exact ⟨v, hK, fun _ => (sn_ok hu ha hv).2⟩
        · rename_i fs hu
          obtain ⟨r, hr, h⟩ := elimO_ex h
          obtain ⟨v, hv, hK⟩ := elimO_ex h
          exact ⟨v, hK, fun _ => eqSt_ok hu hr hv⟩
        · exact h.elim
end
end Go.Kt.V
