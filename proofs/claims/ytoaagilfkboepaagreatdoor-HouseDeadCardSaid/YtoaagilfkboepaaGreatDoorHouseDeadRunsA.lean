/-
  HouseDead: its own alive().
-/
import Derived.Test.YtoaagilfkboepaaGreatDoorHouseDeadDef
set_option linter.unusedSimpArgs false
set_option linter.unusedVariables false
namespace Go.Proofs.YtoaagilfkboepaaGreatDoor
open Go Go.Sx Go.Proofs
theorem alive27_run : isTrue (aCall cfg 100000 200 15 [] noHeap) = true := by kernel_rfl
end Go.Proofs.YtoaagilfkboepaaGreatDoor
