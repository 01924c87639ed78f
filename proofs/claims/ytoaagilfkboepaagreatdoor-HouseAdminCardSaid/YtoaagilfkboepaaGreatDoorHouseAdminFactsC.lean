/-
  HouseAdmin: closed facts of the row: which variables the function names.
-/
import Derived.Test.YtoaagilfkboepaaGreatDoorRowKit
set_option linter.unusedSimpArgs false
set_option linter.unusedVariables false
namespace Go.Proofs.YtoaagilfkboepaaGreatDoor
open Go Go.Sx Go.Proofs Go.RowKit
theorem houseAdmin_named : (Rows.houseAdminRow.named == Tryz.prog.varsNamed 5) = true := by kernel_rfl
end Go.Proofs.YtoaagilfkboepaaGreatDoor
