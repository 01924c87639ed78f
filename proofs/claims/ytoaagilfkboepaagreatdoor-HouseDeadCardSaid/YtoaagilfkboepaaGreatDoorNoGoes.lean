/-
  No body of the program holds a go statement. Printed by a program of ours (rows.py).
-/
import Derived.Test.YtoaagilfkboepaaGreatDoorRowKit
import GoSem.ClaimGoes
set_option linter.unusedSimpArgs false
set_option linter.unusedVariables false
namespace Go.Proofs.YtoaagilfkboepaaGreatDoor
open Go Go.Sx Go.Proofs Go.RowKit
theorem any_cut {α : Type} {p : α → Bool} {l : List α} (a k b : Nat) (e : a + k = b) (h : ((l.drop a).take k).any p = false) (g : (l.drop b).any p = false) : (l.drop a).any p = false := by
  rw [← List.take_append_drop k (l.drop a), List.any_append, h, List.drop_drop, e, g]
  rfl
theorem noGoes0 : ((Tryz.prog.funcs.toList.drop 0).take 60).any Func.goes = false := by kernel_rfl
theorem noGoes60 : ((Tryz.prog.funcs.toList.drop 60).take 60).any Func.goes = false := by kernel_rfl
theorem noGoes120 : ((Tryz.prog.funcs.toList.drop 120).take 60).any Func.goes = false := by kernel_rfl
theorem noGoes180 : ((Tryz.prog.funcs.toList.drop 180).take 60).any Func.goes = false := by kernel_rfl
theorem noGoes240 : ((Tryz.prog.funcs.toList.drop 240).take 60).any Func.goes = false := by kernel_rfl
theorem noGoes300 : ((Tryz.prog.funcs.toList.drop 300).take 60).any Func.goes = false := by kernel_rfl
theorem noGoes360 : ((Tryz.prog.funcs.toList.drop 360).take 60).any Func.goes = false := by kernel_rfl
theorem noGoes420 : ((Tryz.prog.funcs.toList.drop 420).take 60).any Func.goes = false := by kernel_rfl
theorem noGoes480 : ((Tryz.prog.funcs.toList.drop 480).take 60).any Func.goes = false := by kernel_rfl
theorem noGoes540 : ((Tryz.prog.funcs.toList.drop 540).take 60).any Func.goes = false := by kernel_rfl
theorem noGoes600 : ((Tryz.prog.funcs.toList.drop 600).take 60).any Func.goes = false := by kernel_rfl
theorem noGoes660 : ((Tryz.prog.funcs.toList.drop 660).take 60).any Func.goes = false := by kernel_rfl
theorem noGoes720 : ((Tryz.prog.funcs.toList.drop 720).take 60).any Func.goes = false := by kernel_rfl
theorem noGoesEnd : (Tryz.prog.funcs.toList.drop 780).any Func.goes = false := by kernel_rfl
theorem noGoesList : (Tryz.prog.funcs.toList.drop 0).any Func.goes = false := (any_cut 0 60 60 rfl noGoes0 (any_cut 60 60 120 rfl noGoes60 (any_cut 120 60 180 rfl noGoes120 (any_cut 180 60 240 rfl noGoes180 (any_cut 240 60 300 rfl noGoes240 (any_cut 300 60 360 rfl noGoes300 (any_cut 360 60 420 rfl noGoes360 (any_cut 420 60 480 rfl noGoes420 (any_cut 480 60 540 rfl noGoes480 (any_cut 540 60 600 rfl noGoes540 (any_cut 600 60 660 rfl noGoes600 (any_cut 660 60 720 rfl noGoes660 (any_cut 720 60 780 rfl noGoes720 noGoesEnd)))))))))))))
theorem any_of_drop {α : Type} {p : α → Bool} {l : Array α} (h : (l.toList.drop 0).any p = false) : l.any p = false := by
  rw [← Array.any_toList]
  exact h
theorem noGoes : Tryz.prog.funcs.any Func.goes = false := any_of_drop noGoesList
theorem goes_none {P : Program} (h : P.funcs.any Func.goes = false) (f : FuncId) : P.goes f = false := by
  have hg : ∀ g : FuncId, (P.funcs[g]?).any Func.goes = false := fun g => by
    cases e : P.funcs[g]? with
    | none => rfl
    | some fn =>
      have hm : fn ∈ P.funcs := Array.mem_of_getElem? e
      simpa using (Array.any_eq_false'.1 h) fn hm
  unfold Program.goes
  rw [h, Bool.and_false, Bool.or_false]
  exact List.any_eq_false.2 fun g _ => by simp [hg g]
theorem goesAt_none {P : Program} (h : P.funcs.any Func.goes = false) (s : Start) (f : String) : P.goesAt s f = false := by
  have hn : ∀ f, P.goes f = false := goes_none h
  unfold Program.goesAt Program.goesFrom
  have h1 : (P.funcNamed f).any P.goes = false := by
    cases P.funcNamed f with
    | none => rfl
    | some g => exact hn g
  have h2 : P.inits.toList.any P.goes = false := List.any_eq_false.2 fun g _ => by simp [hn g]
  rw [h1]
  cases s <;> simp [h2]
theorem goesBy_none (c : OpenClaim) : false = c.goesBy Tryz.pinned.checked.prog := (goesAt_none noGoes c.start c.func).symm
end Go.Proofs.YtoaagilfkboepaaGreatDoor
