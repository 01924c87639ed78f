/-
  The program's tie, in parts: no cell is met twice.
-/
import Derived.Test.YtoaagilfkboepaaGreatDoorTie1
set_option linter.unusedSimpArgs false
set_option linter.unusedVariables false
namespace Go.Proofs.YtoaagilfkboepaaGreatDoor
open Go
theorem tieRows (os tape) : (DataW.laidRun Tryz.prog (varsWorld Tryz.prog 400 (varsId Tryz.prog) os tape).memory 8 (tieLaid.map (·.1))).map (fun x => decide x.2.Nodup && laidRowsB Tryz.prog (varsWorld Tryz.prog 400 (varsId Tryz.prog) os tape).memory x.2) = some true := by kernel_rfl
end Go.Proofs.YtoaagilfkboepaaGreatDoor
