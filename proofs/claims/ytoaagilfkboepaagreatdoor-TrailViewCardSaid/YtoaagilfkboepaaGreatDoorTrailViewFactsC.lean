/-
  TrailView: closed facts of the row: which variables the function names. Printed by a program of ours (clos.py).
-/
import Derived.Test.YtoaagilfkboepaaGreatDoorTrailViewFactsA
set_option linter.unusedSimpArgs false
set_option linter.unusedVariables false
namespace Go.Proofs.YtoaagilfkboepaaGreatDoor
open Go Go.Sx Go.Proofs Go.RowKit
theorem trailView_named : (Rows.trailViewRow.named == Tryz.prog.varsNamed 4) = true := by
  unfold Program.varsNamed
  rw [trailView_closure]
  kernel_rfl
end Go.Proofs.YtoaagilfkboepaaGreatDoor
