/-
  Closed facts on the program that every row asks.
-/
import Derived.Test.YtoaagilfkboepaaGreatDoorFactLaid
import Derived.JoinedOf
set_option linter.unusedSimpArgs false
set_option linter.unusedVariables false
namespace Go.Proofs.YtoaagilfkboepaaGreatDoor
open Go Go.Sx Go.Proofs Go.RowKit
theorem factMapsRowed : mapsRowed Tryz.prog = true := by kernel_rfl
theorem factStops : (Tryz.prog.stops == []) = true := by kernel_rfl
theorem factStopKnobs : (Tryz.prog.stopKnobs == []) = true := by kernel_rfl
theorem factPlainKeys : (false == Tryz.prog.plainKeys) = true := by kernel_rfl
theorem factStopsHeard : Tryz.prog.stopsHeard = true := by kernel_rfl
theorem factMayEnter : Tryz.prog.mayEnter = true := by kernel_rfl
theorem factLifted : (Rows.houseAdminRow.lifted == Tryz.prog.liftsFinal) = true := by kernel_rfl
theorem factMake : (Tryz.prog.make == some Rows.houseAdminRow.make) = true := by kernel_rfl
end Go.Proofs.YtoaagilfkboepaaGreatDoor
