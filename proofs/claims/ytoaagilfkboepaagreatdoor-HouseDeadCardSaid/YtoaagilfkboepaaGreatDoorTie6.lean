/-
  The program's tie, in parts: the harness's main, and that the program looks.
-/
import Derived.Test.YtoaagilfkboepaaGreatDoorTie1
import Derived.SevenTiedAt
set_option linter.unusedSimpArgs false
set_option linter.unusedVariables false
namespace Go.Proofs.YtoaagilfkboepaaGreatDoor
open Go
theorem tieMain : Tryz.pinned.checked.prog.mainIs = some (true, "e3a97d22c2768d4ef9f3429d5c08a76ead0b6677593415d98cf2d3851de0fe10".toList) := by kernel_rfl
theorem tieLooks : true = Tryz.pinned.checked.prog.looks [] := by kernel_rfl
end Go.Proofs.YtoaagilfkboepaaGreatDoor
