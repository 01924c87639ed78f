/-
  Closed facts on the program that every row asks: each type's row is fine. Printed by a program of ours (rows.py).
-/
import Derived.Test.YtoaagilfkboepaaGreatDoorRowKit
set_option linter.unusedSimpArgs false
set_option linter.unusedVariables false
namespace Go.Proofs.YtoaagilfkboepaaGreatDoor
open Go Go.Sx Go.Proofs Go.RowKit
theorem fine0 : (List.range' 0 95).all (rowFine Tryz.prog) = true := by kernel_rfl
theorem fine1 : (List.range' 95 95).all (rowFine Tryz.prog) = true := by kernel_rfl
theorem fine2 : (List.range' 190 95).all (rowFine Tryz.prog) = true := by kernel_rfl
theorem fine3 : (List.range' 285 95).all (rowFine Tryz.prog) = true := by kernel_rfl
theorem fine4 : (List.range' 380 95).all (rowFine Tryz.prog) = true := by kernel_rfl
theorem fine5 : (List.range' 475 95).all (rowFine Tryz.prog) = true := by kernel_rfl
theorem fine6 : (List.range' 570 95).all (rowFine Tryz.prog) = true := by kernel_rfl
theorem fine7 : (List.range' 665 90).all (rowFine Tryz.prog) = true := by kernel_rfl
theorem fineRange : List.range Tryz.prog.types.size = List.range' 0 95 ++ List.range' 95 95 ++ List.range' 190 95 ++ List.range' 285 95 ++ List.range' 380 95 ++ List.range' 475 95 ++ List.range' 570 95 ++ List.range' 665 90 := by kernel_rfl
theorem fineAll : (List.range Tryz.prog.types.size).all (rowFine Tryz.prog) = true := by
  rw [fineRange]
  simp only [List.all_append, fine0, fine1, fine2, fine3, fine4, fine5, fine6, fine7, Bool.and_self]
theorem fineGlobals : Tryz.prog.globals.all (fun g => decide (g.type < Tryz.prog.types.size)) = true := by kernel_rfl
theorem fineParams : Tryz.prog.funcs.all (fun f => f.params.all fun t => decide (t < Tryz.prog.types.size)) = true := by kernel_rfl
theorem factLaidOut : laidOutB Tryz.prog = true := by
  unfold laidOutB
  rw [fineAll, fineGlobals, fineParams]
  rfl
end Go.Proofs.YtoaagilfkboepaaGreatDoor
