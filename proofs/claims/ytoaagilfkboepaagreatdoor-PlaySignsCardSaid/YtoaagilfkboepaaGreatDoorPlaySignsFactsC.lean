/-
  PlaySigns: closed facts of the row: which variables the function names. Printed by a program of ours (clos.py).
-/
import Derived.Test.YtoaagilfkboepaaGreatDoorPlaySignsFactsA
set_option linter.unusedSimpArgs false
set_option linter.unusedVariables false
namespace Go.Proofs.YtoaagilfkboepaaGreatDoor
open Go Go.Sx Go.Proofs Go.RowKit
theorem playSigns_named : (Rows.playSignsRow.named == Tryz.prog.varsNamed 7) = true := by
  unfold Program.varsNamed
  rw [playSigns_closure]
  kernel_rfl
end Go.Proofs.YtoaagilfkboepaaGreatDoor
