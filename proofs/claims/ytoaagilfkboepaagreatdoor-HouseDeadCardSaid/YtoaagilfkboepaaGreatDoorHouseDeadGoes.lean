/-
  HouseDead: the function starts no goroutine.
-/
import Derived.Test.YtoaagilfkboepaaGreatDoorNoGoes
set_option linter.unusedSimpArgs false
set_option linter.unusedVariables false
namespace Go.Proofs.YtoaagilfkboepaaGreatDoor
open Go Go.Sx Go.Proofs Go.RowKit
theorem houseDead_goes : false = Rows.houseDeadRow.goesBy Tryz.pinned.checked.prog := goesBy_none Rows.houseDeadRow
end Go.Proofs.YtoaagilfkboepaaGreatDoor
