/-
  House.Do of a house that is off, and Light: what they answer.
-/
import Derived.Test.YtoaagilfkboepaaGreatDoorProg
import Derived.WalkKit
import Derived.LoopTactic
import Derived.ChangeMaps5
set_option linter.unusedSimpArgs false
set_option linter.unusedVariables false
namespace Go.Proofs
open Go Go.RowKit
/-- A call that ends with a bool. -/
def RetBool (e : Ending) : Prop := ∃ b, e = .returned (.bool b)
theorem retBool (b : Bool) : RetBool (.returned (.bool b)) := ⟨b, rfl⟩
set_option maxRecDepth 100000 in
theorem Tryz.doOff (b o : Nat) (p : Addr) (s : ByteArray) (W : World) (h0 : W.cell? ⟨b, o, none⟩ = some (.pointer (some p))) (h3 : W.cell? ⟨b, o + 3, none⟩ = some (.bool true)) :
    Calls Tryz.prog 18 #[.pointer (some ⟨b, o, none⟩), .string s] W fun e W' => e = .returned (.tuple #[.string ⟨#[]⟩, .int .i64 14]) ∧ W' = W := by
  go_enter Tryz.func18, Tryz.ntmps18
  go_wp2
  go_ret2
  exact ⟨rfl, rfl⟩
set_option maxRecDepth 100000 in
theorem Tryz.lightNil (W : World) : Calls Tryz.prog 20 #[.slice none 0 0] W fun e W' => RetBool e ∧ W' = W := by
  go_enter Tryz.func20, Tryz.ntmps20
  go_wp2
  go_loop [3] (fun i => i = .int .i64 0) (fun _ => 0)
  case atStart => rfl
  case round =>
    obtain rfl := hrel
    go_wp2
    all_goals go_ret
    all_goals exact ⟨retBool _, rfl⟩
set_option maxRecDepth 100000 in
theorem Tryz.light (a : Addr) (len cap : Nat) (hlen : len ≤ cap) (hcap : cap ≤ 9223372036854775807) (ss : Nat → ByteArray) (W : World) (h : ∀ i, i < len → W.cell? (a.add i) = some (.string (ss i))) (hs : ∀ i, (ss i).size ≤ 9223372036854775807) :
    Calls Tryz.prog 20 #[.slice (some a) len cap] W fun e W' => RetBool e ∧ W' = W := by
  go_enter Tryz.func20, Tryz.ntmps20
  go_wp2
  go_loop [3] (fun i => ∃ k : Nat, k ≤ len ∧ i = .int .i64 k) (fun i => len - (intOf i).toNat)
  case atStart => exact ⟨0, Nat.zero_le _, rfl⟩
  case round =>
    obtain ⟨k, hk, rfl⟩ := hrel
    by_cases hkl : k < len
    · have hc := h k hkl
      have hz := hs k
      go_wp2
      · go_ret
        exact ⟨retBool _, rfl⟩
      · exact ⟨⟨k + 1, by omega, by simp⟩, by simp [intOf]; omega⟩
      · go_ret
        exact ⟨retBool _, rfl⟩
    · go_wp2
      go_ret
      exact ⟨retBool _, rfl⟩
end Go.Proofs
