/-
  TrailView: what is known of its two numbers.
-/
import Derived.Test.YtoaagilfkboepaaGreatDoorCfg2Def
set_option linter.unusedSimpArgs false
set_option linter.unusedVariables false
namespace Go.Proofs.YtoaagilfkboepaaGreatDoor
open Go Go.Sx Go.Proofs
/-- A number below 1. -/
def lowSym (n : Int) : Sym := .mk (.int .i64 n) 1 (.cons (.bin .lss true (.int .i64 1)) (.bool true) .nil)
/-- A number above 15. -/
def highSym (n : Int) : Sym := .mk (.int .i64 n) 1 (.cons (.bin .lss true (.int .i64 1)) (.bool false) (.cons (.bin .gtr true (.int .i64 15)) (.bool true) .nil))
/-- Roles: 1 to 15; 'p': its lowest bit. -/
def roleSym (n : Int) (p : Int) : Sym := .mk (.int .i64 n) 3 (.cons (.bin .lss true (.int .i64 1)) (.bool false) (.cons (.bin .gtr true (.int .i64 15)) (.bool false) (.cons (.bin .geq true (.int .i64 1)) (.bool true) (.cons (.bin .leq true (.int .i64 15)) (.bool true) (.cons (.bin .rem true (.int .i64 2)) (.int .i64 p)
  (.cons (.bin .or false (.int .i64 0)) (.sym (.mk (.int .i64 n) 4 (.cons (.bin .and true (.int .i64 1)) (.int .i64 p) .nil))) .nil))))))
/-- A number of which the remainder of the remainder and 6 is k. -/
def verbSym (n : Int) (k : Int) : Sym := .mk (.int .i64 n) 5 (.cons (.bin .rem true (.int .i64 6)) (.sym (.mk (.int .i64 (n.tmod 6)) 6 (.cons (.bin .add true (.int .i64 6)) (.sym (.mk (.int .i64 (n.tmod 6 + 6)) 7 (.cons (.bin .rem true (.int .i64 6)) (.int .i64 k) .nil))) .nil))) .nil)
/-- A number of which nothing is known. -/
def anySym (n : Int) : Sym := .mk (.int .i64 n) 8 .nil
end Go.Proofs.YtoaagilfkboepaaGreatDoor
