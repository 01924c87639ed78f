/-
  TrailView: closed facts of the row: whose text is run in place. Printed by a program of ours (clos.py).
-/
import Derived.Test.YtoaagilfkboepaaGreatDoorTrailViewFactsA
set_option linter.unusedSimpArgs false
set_option linter.unusedVariables false
namespace Go.Proofs.YtoaagilfkboepaaGreatDoor
open Go Go.Sx Go.Proofs Go.RowKit
theorem trailView_inPlace : (Rows.trailViewRow.inPlace == Tryz.prog.inPlace 4) = true := by
  unfold Program.inPlace
  rw [trailView_closure]
  kernel_rfl
end Go.Proofs.YtoaagilfkboepaaGreatDoor
