/-
  HouseDead: the interpreter's run, 3 writes ahead of the snag.
-/
import Derived.Test.YtoaagilfkboepaaGreatDoorHouseDeadDef
set_option linter.unusedSimpArgs false
set_option linter.unusedVariables false
namespace Go.Proofs.YtoaagilfkboepaaGreatDoor
open Go Go.Sx Go.Proofs
theorem dead3 (x y : Nat → AVal) : deadRes 3 x y = (true, some (x 0)) := by kernel_rfl
end Go.Proofs.YtoaagilfkboepaaGreatDoor
