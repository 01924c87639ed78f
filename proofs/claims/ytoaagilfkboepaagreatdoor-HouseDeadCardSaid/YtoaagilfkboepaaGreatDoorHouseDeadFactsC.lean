/-
  HouseDead: closed facts of the row: which variables the function names. Printed by a program of ours (clos.py).
-/
import Derived.Test.YtoaagilfkboepaaGreatDoorHouseDeadFactsA
set_option linter.unusedSimpArgs false
set_option linter.unusedVariables false
namespace Go.Proofs.YtoaagilfkboepaaGreatDoor
open Go Go.Sx Go.Proofs Go.RowKit
theorem houseDead_named : (Rows.houseDeadRow.named == Tryz.prog.varsNamed 6) = true := by
  unfold Program.varsNamed
  rw [houseDead_closure]
  kernel_rfl
end Go.Proofs.YtoaagilfkboepaaGreatDoor
