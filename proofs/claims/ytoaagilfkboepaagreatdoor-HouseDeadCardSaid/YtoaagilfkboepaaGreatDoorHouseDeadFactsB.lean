/-
  HouseDead: closed facts of the row: whose text is run in place. Printed by a program of ours (clos.py).
-/
import Derived.Test.YtoaagilfkboepaaGreatDoorHouseDeadFactsA
set_option linter.unusedSimpArgs false
set_option linter.unusedVariables false
namespace Go.Proofs.YtoaagilfkboepaaGreatDoor
open Go Go.Sx Go.Proofs Go.RowKit
theorem houseDead_inPlace : (Rows.houseDeadRow.inPlace == Tryz.prog.inPlace 6) = true := by
  unfold Program.inPlace
  rw [houseDead_closure]
  kernel_rfl
end Go.Proofs.YtoaagilfkboepaaGreatDoor
