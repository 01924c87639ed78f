/-
  HouseDead: a witness that fits.
-/
import Derived.Test.YtoaagilfkboepaaGreatDoorWitA
set_option linter.unusedSimpArgs false
set_option linter.unusedVariables false
namespace Go.Proofs.YtoaagilfkboepaaGreatDoor
open Go Go.Sx Go.Proofs Go.RowKit
theorem houseDead_okB (os : Os) : Input.okWideB Tryz.prog ((putIn Tryz.prog os layRows layBlocks).forCall (fun _ _ => 0) ⟨#[], #[.slice none 0 0, .int .i64 0], []⟩) 6 ⟨#[], #[.slice none 0 0, .int .i64 0], []⟩ = true := by kernel_rfl
theorem houseDead_preB (os : Os) (H : Type) (enc : TypeId × Value → H) : Rows.houseDeadSpec.preB enc Tryz.prog Tryz.f6 [] false ((putIn Tryz.prog os layRows layBlocks).forCall (fun _ _ => 0) ⟨#[], #[.slice none 0 0, .int .i64 0], []⟩).memory #[.slice none 0 0, .int .i64 0] 8 = true := by kernel_rfl
theorem houseDead_sizedB (os : Os) (H : Type) (enc : TypeId × Value → H) : Rows.houseDeadSpec.sizedB enc Tryz.prog Tryz.f6 false ((putIn Tryz.prog os layRows layBlocks).forCall (fun _ _ => 0) ⟨#[], #[.slice none 0 0, .int .i64 0], []⟩).memory #[.slice none 0 0, .int .i64 0] 8 = true := by kernel_rfl
theorem houseDead_witness (os : Os) (H : Type) (enc : TypeId × Value → H) :
    ∃ (w : World) (tape : Tape) (i : Input), w.os = os ∧ (w.forCall tape i).Shaped Tryz.checked.prog ∧ i.vars = [] ∧ Input.okWide Tryz.checked.prog (w.forCall tape i) .any w.heap.size 6 i ∧
      ((Rows.houseDeadSpec.pre enc Tryz.checked.prog Tryz.f6 [] false (w.forCall tape i).memory i.args ∧ laidMetH Tryz.prog laid (w.forCall tape i).memory) ∧ sizedMet enc Tryz.checked.prog Tryz.f6 (OpenSpec.ofChange Rows.houseDeadSpec) false (w.forCall tape i).memory i.args) ∧
      ({} : Assume).holds Tryz.checked.prog (lone (Frame.enter Tryz.checked.prog 6 i.args .normal) [] (w.forCall tape i)) :=
  ChangeSpec.witness_shaped (enc := enc) (C := Tryz.checked) (os := os) (X := fun w _ => laidMetH Tryz.prog laid w) false (World.laidAll Tryz.prog os laid) #[.slice none 0 0, .int .i64 0] 8 (World.laidAll_os _ _ _)
    (World.shaped_of_ZipB (witZip os _) (witRest os _)) (by rw [witEq]; exact houseDead_okB os) (by rw [witEq]; exact houseDead_preB os H enc) (by rw [witEq]; exact houseDead_sizedB os H enc)
    (witMet os _)
end Go.Proofs.YtoaagilfkboepaaGreatDoor
