/-
  The witness's world: the listed variables laid in the program's start.
-/
import Derived.Test.YtoaagilfkboepaaGreatDoorLayEq
set_option linter.unusedSimpArgs false
set_option linter.unusedVariables false
namespace Go.Proofs.YtoaagilfkboepaaGreatDoor
open Go Go.Sx Go.Proofs Go.RowKit
theorem heapSize (os : Os) : (World.holding Tryz.prog os ⟨#[], #[], []⟩).heap.size = 15 := by kernel_rfl
theorem layFits_of {P : Program} {w : World} {l : List (String × DataW Unit)} {B : List Nat} {n : Nat} {r : List (Nat × List Value)} {b : List Obj} (hn : w.heap.size = n) (hy : Lay.layList P n l = some (r, b))
    (h1 : decide (r.map (·.1)).Nodup = true) (h2 : (r.all fun r => Lay.isRow w.heap.toList[r.1]? && !B.contains r.1) = true) (h3 : B.all (· < n) = true) : w.layFits P l B = true := by
  unfold World.layFits
  rw [hn, hy]
  simp only [h1, h2, h3, Bool.and_self]
theorem layIfaces_of {P : Program} {w : World} {l : List (String × DataW Unit)} {n : Nat} {r : List (Nat × List Value)} {b : List Obj} {w' : World} (hn : w.heap.size = n) (hy : Lay.layList P n l = some (r, b))
    (h1 : (r.all fun r => r.2.all (Lay.okV P w')) = true) (h2 : b.all (Lay.okO P w') = true) : w.layIfaces P l w' = true := by
  unfold World.layIfaces
  rw [hn, hy]
  simp only [h1, h2, Bool.and_self]
/-- The start world of any program with these rows and blocks put in. -/
noncomputable def putIn (P : Program) (os : Os) (r : List (Nat × List Value)) (b : List Obj) : World := { World.holding P os ⟨#[], #[], []⟩ with heap := ⟨Lay.setRows (World.holding P os ⟨#[], #[], []⟩).heap.toList r ++ b⟩ }
theorem laidAll_of {P : Program} {os : Os} {l : List (String × DataW Unit)} {n : Nat} {r : List (Nat × List Value)} {b : List Obj} (hn : (World.holding P os ⟨#[], #[], []⟩).heap.size = n) (hy : Lay.layList P n l = some (r, b)) :
    World.laidAll P os l = putIn P os r b := by
  unfold World.laidAll World.layVars putIn
  rw [hn, hy]
theorem witEq (os : Os) : World.laidAll Tryz.prog os laid = putIn Tryz.prog os layRows layBlocks := laidAll_of (heapSize os) layEq
theorem zipAt (os : Os) (args : Array Value) : ((putIn Tryz.prog os layRows layBlocks).forCall (fun _ _ => 0) ⟨#[], args, []⟩).variablesZipB Tryz.prog = true := by kernel_rfl
theorem witZip (os : Os) (args : Array Value) : ((World.laidAll Tryz.prog os laid).forCall (fun _ _ => 0) ⟨#[], args, []⟩).variablesZipB Tryz.prog = true := by
  rw [witEq]
  exact zipAt os args
theorem restAt (os : Os) (args : Array Value) : (((putIn Tryz.prog os layRows layBlocks).forCall (fun _ _ => 0) ⟨#[], args, []⟩).heap.toList.drop Tryz.prog.globals.size).take ((begin Tryz.prog (fun _ _ => 0) default).world.heap.size - Tryz.prog.globals.size) =
      (begin Tryz.prog (fun _ _ => 0) default).world.heap.toList.drop Tryz.prog.globals.size := by kernel_rfl
theorem witRest (os : Os) (args : Array Value) : (((World.laidAll Tryz.prog os laid).forCall (fun _ _ => 0) ⟨#[], args, []⟩).heap.toList.drop Tryz.prog.globals.size).take ((begin Tryz.prog (fun _ _ => 0) default).world.heap.size - Tryz.prog.globals.size) =
      (begin Tryz.prog (fun _ _ => 0) default).world.heap.toList.drop Tryz.prog.globals.size := by
  rw [witEq]
  exact restAt os args
theorem witPlain {w : World} : laidMetH Tryz.prog laid w = laidMet Tryz.prog laid w := MakeChecks.laidMetH_plain _ _ _ (by kernel_rfl)
theorem fitsAt (os : Os) : (layRows.all fun r => Lay.isRow (World.holding Tryz.prog os ⟨#[], #[], []⟩).heap.toList[r.1]? && !([] : List Nat).contains r.1) = true := by kernel_rfl
theorem nodupAt : decide (layRows.map (·.1)).Nodup = true := by kernel_rfl
theorem witFits (os : Os) : (World.holding Tryz.prog os ⟨#[], #[], []⟩).layFits Tryz.prog laid [] = true := layFits_of (heapSize os) layEq nodupAt (fitsAt os) rfl
theorem okRows (os : Os) : (layRows.all fun r => r.2.all (Lay.okV Tryz.prog (putIn Tryz.prog os layRows layBlocks))) = true := by kernel_rfl
theorem okBlocks (os : Os) : layBlocks.all (Lay.okO Tryz.prog (putIn Tryz.prog os layRows layBlocks)) = true := by kernel_rfl
theorem witIfaces (os : Os) : (World.holding Tryz.prog os ⟨#[], #[], []⟩).layIfaces Tryz.prog laid (World.laidAll Tryz.prog os laid) = true := by
  rw [witEq]
  exact layIfaces_of (heapSize os) layEq (okRows os) (okBlocks os)
theorem witMet (os : Os) (args : Array Value) : laidMetH Tryz.prog laid ((World.laidAll Tryz.prog os laid).forCall (fun _ _ => 0) ⟨#[], args, []⟩).memory := by
  rw [witPlain]
  exact laidMet_laidAll _ (witFits os) (witIfaces os)
end Go.Proofs.YtoaagilfkboepaaGreatDoor
