/-
  HouseDead: the parts of its body, and what the interpreter is asked.
-/
import Derived.Test.YtoaagilfkboepaaGreatDoorCfgDef
import Derived.Test.YtoaagilfkboepaaGreatDoorSxTailAll
import Derived.KernelRfl
set_option linter.unusedSimpArgs false
set_option linter.unusedVariables false
namespace Go.Proofs.YtoaagilfkboepaaGreatDoor
open Go Go.Sx Go.Proofs
noncomputable def code6 : Code := tailOf 2 (Tryz.f6.body.getD .skip)
noncomputable def tail6 : Code := tailOf 10 (Tryz.f6.body.getD .skip)
def frame6 (n : Int) (x : Nat → AVal) : AFrame := [x 0, .int .i64 n, x 2, x 3, x 4, x 5, x 6, x 7, x 8, x 9, x 10, x 11, x 12, x 13, x 14, x 15, x 16, x 17, x 18, x 19, x 20, x 21, x 22, x 23, x 24, x 25, x 26, x 27, x 28, x 29, x 30, x 31, x 32, x 33, x 34, x 35, x 36, x 37, x 38, x 39, x 40, x 41, x 42, x 43, x 44, x 45, x 46, x 47, x 48, x 49, x 50, x 51, x 52, x 53, x 54, x 55, x 56, x 57, x 58, x 59, x 60, x 61, x 62, x 63, x 64, x 65, x 66, x 67, x 68, x 69, x 70, x 71, x 72, x 73, x 74, x 75, x 76, x 77, x 78, x 79, x 80, x 81, x 82, x 83, x 84, x 85, x 86, x 87, x 88, x 89, x 90, x 91, x 92, x 93, x 94, x 95, x 96, x 97, x 98, x 99, x 100, x 101, x 102, x 103, x 104, x 105, x 106, x 107, x 108, x 109, x 110, x 111, x 112, x 113, x 114, x 115, x 116, x 117, x 118, x 119, x 120, x 121, x 122, x 123, x 124, x 125, x 126, x 127, x 128, x 129]
/-- The slots that the loop writes. -/
def loopSlot (i : Nat) : Bool := Nat.beq i 4 || ((Nat.ble 12 i && Nat.ble i 14) || (Nat.ble 73 i && Nat.ble i 93))
def merge6 (y : Nat → AVal) : Nat → AFrame → AFrame
  | _, [] => []
  | i, a :: l => (match loopSlot i with | true => y i | false => a) :: merge6 y (i + 1) l
/-- Slot 6 is a house that is off. -/
def offHouse (fr : AFrame) (H : AHeap) : Bool :=
  match (fr[6]? : Option AVal) with
  | some (.ptr h 0) => match H.get h with
    | some (.cells [.ptr _ _, _, _, .bool true] _ _) => true
    | _ => false
  | _ => false
noncomputable def deadRes (n : Int) (x y : Nat → AVal) : Bool × Option AVal :=
  match aPre cfg (aCall cfg 100000 200) 100000 7 code6 (frame6 n x) ⟨.leaf, 1⟩ with
  | some (fr, H) => (offHouse fr H && (Nat.beq fr.length 130 && isTrue (aTail cfg (aCall cfg 100000 200) 100000 Tryz.f6 tail6 (merge6 y 0 fr) H)), fr[0]?)
  | none => (false, none)
end Go.Proofs.YtoaagilfkboepaaGreatDoor
