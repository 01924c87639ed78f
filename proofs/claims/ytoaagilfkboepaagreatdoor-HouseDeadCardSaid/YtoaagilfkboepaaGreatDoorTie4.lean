/-
  The program's tie, in parts: what the listed variables read as behind the run.
-/
import Derived.Test.YtoaagilfkboepaaGreatDoorTie1
set_option linter.unusedSimpArgs false
set_option linter.unusedVariables false
namespace Go.Proofs.YtoaagilfkboepaaGreatDoor
open Go
theorem tieRead (os tape) : (DataW.laidRun Tryz.prog (varsWorld Tryz.prog 400 (varsId Tryz.prog) os tape).memory 8 (tieLaid.map (·.1))).map (·.1) = some tieLaid := by kernel_rfl
end Go.Proofs.YtoaagilfkboepaaGreatDoor
