/-
  PlaySigns: a witness that fits.
-/
import Derived.Test.YtoaagilfkboepaaGreatDoorWitA
set_option linter.unusedSimpArgs false
set_option linter.unusedVariables false
namespace Go.Proofs.YtoaagilfkboepaaGreatDoor
open Go Go.Sx Go.Proofs Go.RowKit
theorem playSigns_okB (os : Os) : Input.okWideB Tryz.prog ((putIn Tryz.prog os layRows layBlocks).forCall (fun _ _ => 0) ⟨#[], #[.int .i64 0, .string ⟨#[]⟩], []⟩) 7 ⟨#[], #[.int .i64 0, .string ⟨#[]⟩], []⟩ = true := by kernel_rfl
theorem playSigns_preB (os : Os) (H : Type) (enc : TypeId × Value → H) : Rows.playSignsSpec.preB enc Tryz.prog Tryz.f7 [] false ((putIn Tryz.prog os layRows layBlocks).forCall (fun _ _ => 0) ⟨#[], #[.int .i64 0, .string ⟨#[]⟩], []⟩).memory #[.int .i64 0, .string ⟨#[]⟩] 8 = true := by kernel_rfl
theorem playSigns_sizedB (os : Os) (H : Type) (enc : TypeId × Value → H) : Rows.playSignsSpec.sizedB enc Tryz.prog Tryz.f7 false ((putIn Tryz.prog os layRows layBlocks).forCall (fun _ _ => 0) ⟨#[], #[.int .i64 0, .string ⟨#[]⟩], []⟩).memory #[.int .i64 0, .string ⟨#[]⟩] 8 = true := by kernel_rfl
theorem playSigns_witness (os : Os) (H : Type) (enc : TypeId × Value → H) :
    ∃ (w : World) (tape : Tape) (i : Input), w.os = os ∧ (w.forCall tape i).Shaped Tryz.checked.prog ∧ i.vars = [] ∧ Input.okWide Tryz.checked.prog (w.forCall tape i) .any w.heap.size 7 i ∧
      ((Rows.playSignsSpec.pre enc Tryz.checked.prog Tryz.f7 [] false (w.forCall tape i).memory i.args ∧ laidMetH Tryz.prog laid (w.forCall tape i).memory) ∧ sizedMet enc Tryz.checked.prog Tryz.f7 (OpenSpec.ofChange Rows.playSignsSpec) false (w.forCall tape i).memory i.args) ∧
      ({} : Assume).holds Tryz.checked.prog (lone (Frame.enter Tryz.checked.prog 7 i.args .normal) [] (w.forCall tape i)) :=
  ChangeSpec.witness_shaped (enc := enc) (C := Tryz.checked) (os := os) (X := fun w _ => laidMetH Tryz.prog laid w) false (World.laidAll Tryz.prog os laid) #[.int .i64 0, .string ⟨#[]⟩] 8 (World.laidAll_os _ _ _)
    (World.shaped_of_ZipB (witZip os _) (witRest os _)) (by rw [witEq]; exact playSigns_okB os) (by rw [witEq]; exact playSigns_preB os H enc) (by rw [witEq]; exact playSigns_sizedB os H enc)
    (witMet os _)
end Go.Proofs.YtoaagilfkboepaaGreatDoor
