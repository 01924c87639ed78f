/-
  The program's tie, in parts: which names the list bears.
-/
import Derived.Test.YtoaagilfkboepaaGreatDoorTie1
set_option linter.unusedSimpArgs false
set_option linter.unusedVariables false
namespace Go.Proofs.YtoaagilfkboepaaGreatDoor
open Go
theorem tieNamed : varsNamedLaterB Tryz.prog (varsId Tryz.prog) tieLaid = true := by kernel_rfl
end Go.Proofs.YtoaagilfkboepaaGreatDoor
