/-
  strings.HasPrefix of a bang: whether the text's first byte is one.
-/
import Derived.Test.YtoaagilfkboepaaGreatDoorProg
import Derived.Test.YtoaagilfkboepaaGreatDoorSxPrims6
import Derived.WalkKit
import Derived.LoopTactic
set_option linter.unusedSimpArgs false
set_option linter.unusedVariables false
namespace Go.Proofs
open Go Go.RowKit
theorem head_take {l : List UInt8} {c : UInt8} (h : 1 ≤ l.length) : (l.take 1 == [c]) = (l.head? == some c) := by
  cases l with
  | nil => simp at h
  | cons x r => simp
set_option maxRecDepth 100000 in
theorem Tryz.hasBang (s : ByteArray) (hs : s.size ≤ 9223372036854775807) (w : World) : Calls Tryz.prog 150 #[.string s, .string ⟨#[33]⟩] w fun e w' => e = .returned (.bool (s.data.toList.head? == some 33)) ∧ w' = w := by
  have hsz : s.data.toList.length = s.size := Array.length_toList
  by_cases h1 : 1 ≤ s.size
  · have hx : ((s.extract 0 1).toList == [33]) = (s.data.toList.head? == some 33) := by
      rw [ByteArray.toList_eq, Go.Sx.extract_data]
      simpa using head_take (l := s.data.toList) (c := 33) (by omega)
    rw [← hx]
    clear hx
    go_enter Tryz.func150, Tryz.ntmps150
    go_wp2
    go_ret
    exact ⟨rfl, rfl⟩
  · have hx : (s.data.toList.head? == some 33) = false := by
      have : s.data.toList = [] := List.eq_nil_of_length_eq_zero (by omega)
      rw [this]
      rfl
    rw [hx]
    clear hx
    go_enter Tryz.func150, Tryz.ntmps150
    go_wp2
    go_ret
    exact ⟨rfl, rfl⟩
end Go.Proofs
