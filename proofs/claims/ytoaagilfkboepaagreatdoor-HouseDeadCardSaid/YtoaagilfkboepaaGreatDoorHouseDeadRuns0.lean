/-
  HouseDead: the interpreter's run, 0 writes ahead of the snag.
-/
import Derived.Test.YtoaagilfkboepaaGreatDoorHouseDeadDef
set_option linter.unusedSimpArgs false
set_option linter.unusedVariables false
namespace Go.Proofs.YtoaagilfkboepaaGreatDoor
open Go Go.Sx Go.Proofs
theorem dead0 (x y : Nat → AVal) : deadRes 0 x y = (true, some (x 0)) := by kernel_rfl
end Go.Proofs.YtoaagilfkboepaaGreatDoor
