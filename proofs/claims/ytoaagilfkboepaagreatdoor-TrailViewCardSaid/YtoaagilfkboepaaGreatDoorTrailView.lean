/-
  TrailView: the function answers true, whatever the two numbers are.
-/
import Derived.Test.YtoaagilfkboepaaGreatDoorTrailViewRuns0
import Derived.Test.YtoaagilfkboepaaGreatDoorTrailViewRuns1
import Derived.Test.YtoaagilfkboepaaGreatDoorTrailViewRuns2
import Derived.Test.YtoaagilfkboepaaGreatDoorTrailViewRuns3
import Derived.Test.YtoaagilfkboepaaGreatDoorTrailViewRuns4
import Derived.Test.YtoaagilfkboepaaGreatDoorTrailViewRuns5
import Derived.Test.YtoaagilfkboepaaGreatDoorCfg2
set_option linter.unusedSimpArgs false
set_option linter.unusedVariables false
namespace Go.Proofs.YtoaagilfkboepaaGreatDoor
open Go Go.Sx Go.Proofs Go.RowKit
theorem lowOk {n : Int} (h : n < 1) : (lowSym n).Ok := by
  have : decide (n < 1) = true := decide_eq_true h
  simp [lowSym, Sym.Ok, SFacts.Ok, SRes.Ok, qEval, SRes.toAVal, AVal.conc, Scal.toAVal, aBinC, h]
theorem highOk {n : Int} (h : 15 < n) : (highSym n).Ok := by
  simp [highSym, Sym.Ok, SFacts.Ok, SRes.Ok, qEval, SRes.toAVal, AVal.conc, Scal.toAVal, aBinC]
  omega
theorem anyOk (n : Int) : (anySym n).Ok := by simp [anySym, Sym.Ok, SFacts.Ok]
theorem roleOk {n : Int} (h1 : 1 ≤ n) (h2 : n ≤ 15) : (roleSym n (n % 2)).Ok := by
  have : n = 1 ∨ n = 2 ∨ n = 3 ∨ n = 4 ∨ n = 5 ∨ n = 6 ∨ n = 7 ∨ n = 8 ∨ n = 9 ∨ n = 10 ∨ n = 11 ∨ n = 12 ∨ n = 13 ∨ n = 14 ∨ n = 15 := by omega
  rcases this with rfl | rfl | rfl | rfl | rfl | rfl | rfl | rfl | rfl | rfl | rfl | rfl | rfl | rfl | rfl <;>
    exact ⟨rfl, trivial, rfl, trivial, rfl, trivial, rfl, trivial, rfl, trivial, rfl, ⟨rfl, trivial, trivial⟩, trivial⟩
theorem tmod_range (m : Int) : -6 < m.tmod 6 ∧ m.tmod 6 < 6 := by
  have h1 := Int.natAbs_tmod m 6
  have h2 : m.natAbs % 6 < 6 := Nat.mod_lt _ (by omega)
  have h3 : (m.tmod 6).natAbs < 6 := by rw [h1]; exact h2
  omega
theorem wrap_small {x : Int} (h1 : -1000 ≤ x) (h2 : x ≤ 1000) : IntKind.i64.wrap x = x := by
  have : -1000 ≤ x ∧ x ≤ 1000 := ⟨h1, h2⟩
  rw [IntKind.wrap_i64]
  omega
theorem verbOk (m : Int) : (verbSym m ((m.tmod 6 + 6).tmod 6)).Ok := by
  have hr := tmod_range m
  have hw : IntKind.i64.wrap (m.tmod 6 + 6) = m.tmod 6 + 6 := wrap_small (by omega) (by omega)
  simp [verbSym, Sym.Ok, SFacts.Ok, SRes.Ok, qEval, SRes.toAVal, AVal.conc, Scal.toAVal, Sym.val, aBinC, hw]
theorem verb_cases (m : Int) : (m.tmod 6 + 6).tmod 6 = 0 ∨ (m.tmod 6 + 6).tmod 6 = 1 ∨ (m.tmod 6 + 6).tmod 6 = 2 ∨ (m.tmod 6 + 6).tmod 6 = 3 ∨ (m.tmod 6 + 6).tmod 6 = 4 ∨ (m.tmod 6 + 6).tmod 6 = 5 := by
  have hr := tmod_range m
  have : (m.tmod 6 + 6).tmod 6 = (m.tmod 6 + 6) % 6 := Int.tmod_eq_emod_of_nonneg (by omega)
  omega
theorem trailView_run (n m : Int) (h1 : 1 ≤ n) (h2 : n ≤ 15) : isTrue (aCall cfg2 100000 200 4 [.sym (roleSym n (n % 2)), .sym (verbSym m ((m.tmod 6 + 6).tmod 6))] noHeap) = true := by
  have hp : n % 2 = 0 ∨ n % 2 = 1 := by omega
  rcases hp with hp | hp <;> rcases verb_cases m with hk | hk | hk | hk | hk | hk <;> rw [hp, hk]
  · exact view0_0 n m
  · exact view1_0 n m
  · exact view2_0 n m
  · exact view3_0 n m
  · exact view4_0 n m
  · exact view5_0 n m
  · exact view0_1 n m
  · exact view1_1 n m
  · exact view2_1 n m
  · exact view3_1 n m
  · exact view4_1 n m
  · exact view5_1 n m
theorem trailView_walk {o0 o3 : Obj} (h0 : Is0 o0) (h3 : Is3 o3) (n m : Int) (w : World) (hw0 : w.heap[0]? = some o0) (hw3 : w.heap[3]? = some o3) :
    Calls Tryz.prog 4 #[.int .i64 n, .int .i64 m] w fun e w' => e = .returned (.bool true) ∧ Below w.heap.size w w' := by
  have hB : ∀ p ∈ base o0 o3 [], w.heap[p.1]? = some p.2 := by
    intro p hp
    simp only [base, List.mem_cons, List.not_mem_nil, or_false] at hp
    rcases hp with rfl | rfl
    · exact hw0
    · exact hw3
  have hc : CfgOk Tryz.prog (base o0 o3 []) cfg2 := cfgOk2 h0 h3
  by_cases h1 : n < 1
  · exact runs_true hc (viewLow n m) hB (.cons _ _ _ _ (.sym _ _ (lowOk h1) (.int _ _)) (.cons _ _ _ _ (.sym _ _ (anyOk m) (.int _ _)) .nil))
  · by_cases h2 : 15 < n
    · exact runs_true hc (viewHigh n m) hB (.cons _ _ _ _ (.sym _ _ (highOk h2) (.int _ _)) (.cons _ _ _ _ (.sym _ _ (anyOk m) (.int _ _)) .nil))
    · exact runs_true hc (trailView_run n m (by omega) (by omega)) hB (.cons _ _ _ _ (.sym _ _ (roleOk (by omega) (by omega)) (.int _ _)) (.cons _ _ _ _ (.sym _ _ (verbOk m) (.int _ _)) .nil))
end Go.Proofs.YtoaagilfkboepaaGreatDoor
