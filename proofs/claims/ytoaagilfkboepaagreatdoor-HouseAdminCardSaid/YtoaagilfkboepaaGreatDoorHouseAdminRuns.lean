/-
  HouseAdmin: the interpreter's runs, with a name that is not written down.
-/
import Derived.Test.YtoaagilfkboepaaGreatDoorCfgDef
import Derived.KernelRfl
set_option linter.unusedSimpArgs false
set_option linter.unusedVariables false
namespace Go.Proofs.YtoaagilfkboepaaGreatDoor
open Go Go.Sx Go.Proofs
def ann : List UInt8 := [97, 110, 110]
/-- A long text: its length is known to be more than 40. -/
def longSym (L : List UInt8) : Sym := .mk (.str L) 1 (.cons .len (.sym (.mk (.int .i64 L.length) 2 (.cons (.bin .gtr true (.int .i64 40)) (.bool true) .nil))) .nil)
/-- Another name, one that may be (v) or not. -/
def nameSym (L : List UInt8) : Sym := .mk (.str L) 1 (.cons .short (.bool true) (.cons .len (.sym (.mk (.int .i64 L.length) 2 (.cons (.bin .gtr true (.int .i64 40)) (.bool false) (.cons (.bin .lss true (.int .i64 1)) (.bool false) (.cons (.bin .gtr true (.int .i64 12)) (.bool false) .nil)))))
  (.cons (.bin .eql true (.str ann)) (.bool false) (.cons (.bin .eql false (.str ann)) (.bool false) (.cons (.pred 0) (.bool true) .nil)))))
def badSym (L : List UInt8) : Sym := .mk (.str L) 1 (.cons .short (.bool true) (.cons .len (.sym (.mk (.int .i64 L.length) 2 (.cons (.bin .gtr true (.int .i64 40)) (.bool false) .nil)))
  (.cons (.bin .eql true (.str ann)) (.bool false) (.cons (.bin .eql false (.str ann)) (.bool false) (.cons (.pred 0) (.bool false) .nil)))))
theorem adminLong (L : List UInt8) : isTrue (aCall cfg 100000 200 5 [.sym (longSym L)] noHeap) = true := by kernel_rfl
theorem adminAnn : isTrue (aCall cfg 100000 200 5 [.str ann] noHeap) = true := by kernel_rfl
theorem adminName (L : List UInt8) : isTrue (aCall cfg 100000 200 5 [.sym (nameSym L)] noHeap) = true := by kernel_rfl
theorem adminBad (L : List UInt8) : isTrue (aCall cfg 100000 200 5 [.sym (badSym L)] noHeap) = true := by kernel_rfl
end Go.Proofs.YtoaagilfkboepaaGreatDoor
