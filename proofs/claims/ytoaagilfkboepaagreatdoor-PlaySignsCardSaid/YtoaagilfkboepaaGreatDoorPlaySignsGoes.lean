/-
  PlaySigns: the function starts no goroutine.
-/
import Derived.Test.YtoaagilfkboepaaGreatDoorNoGoes
set_option linter.unusedSimpArgs false
set_option linter.unusedVariables false
namespace Go.Proofs.YtoaagilfkboepaaGreatDoor
open Go Go.Sx Go.Proofs Go.RowKit
theorem playSigns_goes : false = Rows.playSignsRow.goesBy Tryz.pinned.checked.prog := goesBy_none Rows.playSignsRow
end Go.Proofs.YtoaagilfkboepaaGreatDoor
