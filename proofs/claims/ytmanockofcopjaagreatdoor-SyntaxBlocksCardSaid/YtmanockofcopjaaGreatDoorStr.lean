
/-
  Own work: strings as lists of bytes. No program in sight.
-/
import Derived.Test.YtmanockofcopjaaGreatDoorMap
import Derived.Lib.Strings
namespace Go.Kt
open Go Go.RowKit
set_option linter.unusedSimpArgs false
set_option linter.unusedVariables false

/-- the string of these bytes -/
@[reducible] def T (l : List UInt8) : ByteArray := ⟨l.toArray⟩
theorem T_of (s : ByteArray) : s = T s.data.toList := by
  obtain ⟨⟨l⟩⟩ := s
  rfl
theorem T_size (l : List UInt8) : (T l).size = l.length := by simp [T, ByteArray.size]
theorem T_get (l : List UInt8) (i : Nat) : (T l)[i]? = l[i]? := by
  by_cases h : i < l.length
  · rw [List.getElem?_eq_getElem h, getElem?_pos (T l) i (by rw [T_size]; exact h)]
    rfl
  · rw [List.getElem?_eq_none (by omega), getElem?_neg (T l) i (by rw [T_size]; exact h)]
theorem T_ext (l : List UInt8) (a b : Nat) : (T l).extract a b = T ((l.drop a).take (b - a)) := by
  rw [T_of ((T l).extract a b), Lib.extract_data]
theorem T_eq (l m : List UInt8) : ((T l).toList == (T m).toList) = decide (l = m) := ba_eq l m
end Go.Kt
