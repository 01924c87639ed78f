/-
  HouseAdmin: the function answers true, whatever the other name is.
-/
import Derived.Test.YtoaagilfkboepaaGreatDoorHouseAdminRuns
import Derived.Test.YtoaagilfkboepaaGreatDoorRuns
set_option linter.unusedSimpArgs false
set_option linter.unusedVariables false
namespace Go.Proofs.YtoaagilfkboepaaGreatDoor
open Go Go.Sx Go.Proofs Go.RowKit
theorem longOk {L : List UInt8} (h : 40 < L.length) : (longSym L).Ok := by
  have : decide ((L.length : Int) > 40) = true := decide_eq_true (by omega)
  simp [longSym, Sym.Ok, SFacts.Ok, SRes.Ok, qEval, SRes.toAVal, AVal.conc, Sym.val, Scal.toAVal, aBinC, this]
theorem nameOk {L : List UInt8} (h : nameB L = true) (hne : L ≠ ann) : (nameSym L).Ok := by
  have hl : 1 ≤ L.length ∧ L.length ≤ 12 := by
    simp only [nameB, Bool.and_eq_true, decide_eq_true_eq] at h
    exact h.2
  have e1 : (L == ann) = false := by simpa using hne
  have e2 : (ann == L) = false := by simpa using fun e => hne e.symm
  simp only [nameSym, Sym.Ok, SFacts.Ok, SRes.Ok, qEval, SRes.toAVal, AVal.conc, Sym.val, Scal.toAVal, aBinC, e1, e2, h, if_true, and_true, true_and]
  refine ⟨?_, ?_, ?_, ?_⟩
  · congr 2; exact decide_eq_true (by omega)
  · congr 2; exact decide_eq_false (by omega)
  · congr 2; exact decide_eq_false (by omega)
  · congr 2; exact decide_eq_false (by omega)
theorem badOk {L : List UInt8} (h : nameB L = false) (hne : L ≠ ann) (hl : L.length ≤ 40) : (badSym L).Ok := by
  have e1 : (L == ann) = false := by simpa using hne
  have e2 : (ann == L) = false := by simpa using fun e => hne e.symm
  simp only [badSym, Sym.Ok, SFacts.Ok, SRes.Ok, qEval, SRes.toAVal, AVal.conc, Sym.val, Scal.toAVal, aBinC, e1, e2, h, if_true, and_true, true_and]
  refine ⟨?_, ?_⟩
  · congr 2; exact decide_eq_true (by omega)
  · congr 2; exact decide_eq_false (by omega)
theorem houseAdmin_walk {o0 o3 : Obj} (h0 : Is0 o0) (h3 : Is3 o3) (other : ByteArray) (w : World) (hw0 : w.heap[0]? = some o0) (hw3 : w.heap[3]? = some o3) :
    Calls Tryz.prog 5 #[.string other] w fun e w' => e = .returned (.bool true) ∧ Below w.heap.size w w' := by
  have hB : ∀ p ∈ base o0 o3 [], w.heap[p.1]? = some p.2 := by
    intro p hp
    simp only [base, List.mem_cons, List.not_mem_nil, or_false] at hp
    rcases hp with rfl | rfl
    · exact hw0
    · exact hw3
  have hc : CfgOk Tryz.prog (base o0 o3 []) cfg := cfgOk h0 h3
  have hstr : VR (fun _ => none) (.str other.data.toList) (.string other) := .str other
  by_cases hl : 40 < other.data.toList.length
  · exact runs_true hc (adminLong _) hB (.cons _ _ _ _ (.sym _ _ (longOk hl) hstr) .nil)
  · by_cases hne : other.data.toList = ann
    · exact runs_true hc adminAnn hB (.cons _ _ _ _ (hne ▸ hstr) .nil)
    · cases hn : nameB other.data.toList with
      | true => exact runs_true hc (adminName _) hB (.cons _ _ _ _ (.sym _ _ (nameOk hn hne) hstr) .nil)
      | false => exact runs_true hc (adminBad _) hB (.cons _ _ _ _ (.sym _ _ (badOk hn hne (by omega)) hstr) .nil)
end Go.Proofs.YtoaagilfkboepaaGreatDoor
