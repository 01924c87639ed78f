/-
  TrailView: the function starts no goroutine.
-/
import Derived.Test.YtoaagilfkboepaaGreatDoorNoGoes
set_option linter.unusedSimpArgs false
set_option linter.unusedVariables false
namespace Go.Proofs.YtoaagilfkboepaaGreatDoor
open Go Go.Sx Go.Proofs Go.RowKit
theorem trailView_goes : false = Rows.trailViewRow.goesBy Tryz.pinned.checked.prog := goesBy_none Rows.trailViewRow
end Go.Proofs.YtoaagilfkboepaaGreatDoor
