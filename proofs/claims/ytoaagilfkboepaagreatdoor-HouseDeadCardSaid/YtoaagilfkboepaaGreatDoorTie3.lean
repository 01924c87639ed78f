/-
  The program's tie, in parts: the run of the initialisers ends.
-/
import Derived.Test.YtoaagilfkboepaaGreatDoorTie1
set_option linter.unusedSimpArgs false
set_option linter.unusedVariables false
namespace Go.Proofs.YtoaagilfkboepaaGreatDoor
open Go
theorem tieDone (os tape) : varsDone Tryz.prog 400 (varsId Tryz.prog) os tape = true := by kernel_rfl
end Go.Proofs.YtoaagilfkboepaaGreatDoor
