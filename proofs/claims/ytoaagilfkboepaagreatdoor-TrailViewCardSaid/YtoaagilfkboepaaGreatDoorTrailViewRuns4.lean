/-
  TrailView: the interpreter's runs, verb 4.
-/
import Derived.Test.YtoaagilfkboepaaGreatDoorTrailViewSyms
import Derived.KernelRfl
set_option linter.unusedSimpArgs false
set_option linter.unusedVariables false
namespace Go.Proofs.YtoaagilfkboepaaGreatDoor
open Go Go.Sx Go.Proofs
theorem view4_0 (n m : Int) : isTrue (aCall cfg2 100000 200 4 [.sym (roleSym n 0), .sym (verbSym m 4)] noHeap) = true := by kernel_rfl
theorem view4_1 (n m : Int) : isTrue (aCall cfg2 100000 200 4 [.sym (roleSym n 1), .sym (verbSym m 4)] noHeap) = true := by kernel_rfl
end Go.Proofs.YtoaagilfkboepaaGreatDoor
