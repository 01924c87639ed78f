/-
  PlaySigns: closed facts of the row: whose text is run in place. Printed by a program of ours (clos.py).
-/
import Derived.Test.YtoaagilfkboepaaGreatDoorPlaySignsFactsA
set_option linter.unusedSimpArgs false
set_option linter.unusedVariables false
namespace Go.Proofs.YtoaagilfkboepaaGreatDoor
open Go Go.Sx Go.Proofs Go.RowKit
theorem playSigns_inPlace : (Rows.playSignsRow.inPlace == Tryz.prog.inPlace 7) = true := by
  unfold Program.inPlace
  rw [playSigns_closure]
  kernel_rfl
end Go.Proofs.YtoaagilfkboepaaGreatDoor
