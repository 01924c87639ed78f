/-
  PlaySigns: the interpreter's run of what follows the loop.
-/
import Derived.Test.YtoaagilfkboepaaGreatDoorCfg3Def
import Derived.Test.YtoaagilfkboepaaGreatDoorSxTail
import Derived.KernelRfl
set_option linter.unusedSimpArgs false
set_option linter.unusedVariables false
namespace Go.Proofs.YtoaagilfkboepaaGreatDoor
open Go Go.Sx Go.Proofs
/-- What is known of the word itself, where it is cut out again. -/
def wordSym (L : List UInt8) : Sym := .mk (.str L) 4 (.cons .short (.bool true) (.cons (.pred 1) (.bool true) (.cons (.bin .eql true (.str [103, 101, 110])) (.bool false) .nil)))
/-- A bang, a blank, the word. -/
def lineSym (L : List UInt8) : Sym := .mk (.str (33 :: 32 :: L)) 2 (.cons .short (.bool true) (.cons (.bin .eql true (.str [33, 32, 109, 101, 110, 100])) (.bool false) (.cons (.pred 2) (.bool true) (.cons (.pred 3) (.bool true) (.cons (.drop 2) (.sym (wordSym L)) .nil)))))
/-- A bang, the word. -/
def joinSym (L : List UInt8) : Sym := .mk (.str (33 :: L)) 3 (.cons .short (.bool true) (.cons (.bin .eql true (.str [33, 32, 109, 101, 110, 100])) (.bool false) (.cons (.pred 1) (.bool true) (.cons (.pred 2) (.bool true) (.cons (.bin .eql true (.str [33])) (.bool false) .nil)))))
/-- The word: no blank in it, and none of the words that are meant. -/
def badWord (L : List UInt8) : Sym := .mk (.str L) 1 (.cons .short (.bool true) (.cons (.bin .eql true (.str [])) (.bool false) (.cons (.bin .eql true (.str [103, 101, 110])) (.bool false) (.cons (.bin .eql true (.str [109, 101, 110, 100])) (.bool false) (.cons (.bin .add false (.str [33, 32])) (.sym (lineSym L)) (.cons (.bin .add false (.str [33])) (.sym (joinSym L)) .nil))))))
noncomputable def tail7 : Code := tailOf 3 (Tryz.f7.body.getD .skip)
def frame7 (bad : AVal) (x : Nat → AVal) : AFrame := [x 0, bad, x 2, x 3, x 4, x 5, x 6, x 7, x 8, x 9, x 10, x 11, x 12, x 13, x 14, x 15, x 16, x 17, x 18, x 19, x 20, x 21, x 22, x 23, x 24, x 25, x 26, x 27, x 28, x 29, x 30, x 31, x 32, x 33, x 34, x 35, x 36, x 37, x 38, x 39, x 40, x 41, x 42, x 43, x 44, x 45, x 46, x 47, x 48, x 49, x 50, x 51, x 52, x 53, x 54, x 55, x 56, x 57, x 58]
/-- A text of which nothing is known. -/
def anyText (L : List UInt8) : Sym := .mk (.str L) 8 .nil
/-- A text of more than 60 bytes. -/
def longText (L : List UInt8) : Sym := .mk (.str L) 8 (.cons .len (.sym (.mk (.int .i64 L.length) 9 (.cons (.bin .gtr true (.int .i64 60)) (.bool true) .nil))) .nil)
def belowNone (n : Int) : Sym := .mk (.int .i64 n) 1 (.cons (.bin .lss true (.int .i64 0)) (.bool true) .nil)
def aboveAll (n : Int) : Sym := .mk (.int .i64 n) 1 (.cons (.bin .lss true (.int .i64 0)) (.bool false) (.cons (.bin .gtr true (.int .i64 1000)) (.bool true) .nil))
def within (n : Int) : Sym := .mk (.int .i64 n) 1 (.cons (.bin .lss true (.int .i64 0)) (.bool false) (.cons (.bin .gtr true (.int .i64 1000)) (.bool false) .nil))
theorem alive28_run : isTrue (aCall cfg3 100000 200 24 [] noHeap) = true := by kernel_rfl
theorem signsLow (n : Int) (L : List UInt8) : isTrue (aCall cfg3 100000 200 7 [.sym (belowNone n), .sym (anyText L)] noHeap) = true := by kernel_rfl
theorem signsHigh (n : Int) (L : List UInt8) : isTrue (aCall cfg3 100000 200 7 [.sym (aboveAll n), .sym (anyText L)] noHeap) = true := by kernel_rfl
theorem signsLong (n : Int) (L : List UInt8) : isTrue (aCall cfg3 100000 200 7 [.sym (within n), .sym (longText L)] noHeap) = true := by kernel_rfl
theorem signs_empty (x : Nat → AVal) : isTrue (aTail cfg3 (aCall cfg3 100000 200) 100000 Tryz.f7 tail7 (frame7 (.str []) x) noHeap) = true := by kernel_rfl
theorem signs_gen (x : Nat → AVal) : isTrue (aTail cfg3 (aCall cfg3 100000 200) 100000 Tryz.f7 tail7 (frame7 (.str [103, 101, 110]) x) noHeap) = true := by kernel_rfl
theorem signs_mend (x : Nat → AVal) : isTrue (aTail cfg3 (aCall cfg3 100000 200) 100000 Tryz.f7 tail7 (frame7 (.str [109, 101, 110, 100]) x) noHeap) = true := by kernel_rfl
theorem signs_word (L : List UInt8) (x : Nat → AVal) : isTrue (aTail cfg3 (aCall cfg3 100000 200) 100000 Tryz.f7 tail7 (frame7 (.sym (badWord L)) x) noHeap) = true := by kernel_rfl
end Go.Proofs.YtoaagilfkboepaaGreatDoor
