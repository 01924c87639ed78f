/-
  The program's tie: the listed variables read as the program's own text lays them.
-/
import Derived.Test.YtoaagilfkboepaaGreatDoorTie2
import Derived.Test.YtoaagilfkboepaaGreatDoorTie3
import Derived.Test.YtoaagilfkboepaaGreatDoorTie4
import Derived.Test.YtoaagilfkboepaaGreatDoorTie5
import Derived.Test.YtoaagilfkboepaaGreatDoorTie6
import Derived.SevenTiedAt
set_option linter.unusedSimpArgs false
set_option linter.unusedVariables false
namespace Go.Proofs.YtoaagilfkboepaaGreatDoor
open Go
theorem tie : Tryz.prog.laidByTextLater tieLaid [.data, .sentinel, .sentinel, .data, .data, .data] true :=
  Program.laidByTextLater_by_run 400 8 tieWord tieWord' tieRoot tieKinds tieVars tieNamed tieDone tieRead tieRows (by kernel_rfl)
end Go.Proofs.YtoaagilfkboepaaGreatDoor
