/-
  HouseAdmin: closed facts of the row: what the function comes to.
-/
import Derived.Test.YtoaagilfkboepaaGreatDoorRowKit
set_option linter.unusedSimpArgs false
set_option linter.unusedVariables false
namespace Go.Proofs.YtoaagilfkboepaaGreatDoor
open Go Go.Sx Go.Proofs Go.RowKit
theorem houseAdmin_recurses : (Rows.houseAdminRow.recurses == Tryz.prog.recurses 5) = true := by kernel_rfl
end Go.Proofs.YtoaagilfkboepaaGreatDoor
