/-
  PlaySigns: the function answers true, whatever the number and the word are.
-/
import Derived.Test.YtoaagilfkboepaaGreatDoorPlaySignsHead
import Derived.Test.YtoaagilfkboepaaGreatDoorCfg3
set_option linter.unusedSimpArgs false
set_option linter.unusedVariables false
namespace Go.Proofs.YtoaagilfkboepaaGreatDoor
open Go Go.Sx Go.Proofs Go.RowKit
theorem belowNoneOk {n : Int} (h : n < 0) : (belowNone n).Ok := by
  simp [belowNone, Sym.Ok, SFacts.Ok, SRes.Ok, qEval, SRes.toAVal, AVal.conc, Scal.toAVal, aBinC, h]
theorem aboveAllOk {n : Int} (h : 1000 < n) : (aboveAll n).Ok := by
  simp [aboveAll, Sym.Ok, SFacts.Ok, SRes.Ok, qEval, SRes.toAVal, AVal.conc, Scal.toAVal, aBinC]
  omega
theorem withinOk {n : Int} (h : 0 ≤ n) (h' : n ≤ 1000) : (within n).Ok := by
  simp [within, Sym.Ok, SFacts.Ok, SRes.Ok, qEval, SRes.toAVal, AVal.conc, Scal.toAVal, aBinC]
  omega
theorem anyTextOk (L : List UInt8) : (anyText L).Ok := by simp [anyText, Sym.Ok, SFacts.Ok]
theorem longTextOk {L : List UInt8} (h : 60 < L.length) : (longText L).Ok := by
  have : decide ((L.length : Int) > 60) = true := decide_eq_true (by omega)
  simp [longText, Sym.Ok, SFacts.Ok, SRes.Ok, qEval, SRes.toAVal, AVal.conc, Sym.val, Scal.toAVal, aBinC, this]
theorem badWordOk {L : List UInt8} (hl : L.length ≤ 60) (hb : (L.all fun c => c != 32) = true) (h1 : L ≠ []) (h2 : L ≠ [103, 101, 110]) (h3 : L ≠ [109, 101, 110, 100]) : (badWord L).Ok := by
  have e1 : (L == []) = false := by simpa using h1
  have e2 : (L == [103, 101, 110]) = false := by simpa using h2
  have e3 : (L == [109, 101, 110, 100]) = false := by simpa using h3
  have e4 : ((33 :: 32 :: L) == [33, 32, 109, 101, 110, 100]) = false := by simpa using h3
  have e5 : ((33 :: L) == [33, 32, 109, 101, 110, 100]) = false := by
    have hn : L ≠ [32, 109, 101, 110, 100] := fun e => by
      rw [e] at hb
      revert hb
      decide
    simpa using hn
  have e6 : ((33 :: L) == [33]) = false := by simpa using h1
  have l1 : decide (L.length ≤ 1000) = true := decide_eq_true (by omega)
  have l2 : decide ((33 :: 32 :: L : List UInt8).length ≤ 1000) = true := decide_eq_true (by simp only [List.length_cons]; omega)
  have l3 : decide ((33 :: L : List UInt8).length ≤ 1000) = true := decide_eq_true (by simp only [List.length_cons]; omega)
  have b2 : ((33 :: L : List UInt8).all fun c => c != 32) = true := by
    rw [List.all_cons, hb]
    rfl
  have a1 : qEval (.bin .add false (.str [33, 32])) (.str L) = some (.str (33 :: 32 :: L)) := by
    show (if [33, 32].length + L.length ≤ 2 ^ 40 then some (AVal.str ([33, 32] ++ L)) else none) = _
    rw [if_pos (by simp only [List.length_cons, List.length_nil]; omega)]
    rfl
  have a2 : qEval (.bin .add false (.str [33])) (.str L) = some (.str (33 :: L)) := by
    show (if [33].length + L.length ≤ 2 ^ 40 then some (AVal.str ([33] ++ L)) else none) = _
    rw [if_pos (by simp only [List.length_cons, List.length_nil]; omega)]
    rfl
  have w1 : (wordSym L).Ok := by
    refine ⟨?_, trivial, ?_, trivial, ?_, trivial, trivial⟩
    · exact congrArg (fun b => some (AVal.bool b)) l1
    · exact congrArg (fun b => some (AVal.bool b)) hb
    · exact congrArg (fun b => some (AVal.bool b)) e2
  have w2 : (lineSym L).Ok := by
    refine ⟨?_, trivial, ?_, trivial, rfl, trivial, rfl, trivial, rfl, w1, trivial⟩
    · exact congrArg (fun b => some (AVal.bool b)) l2
    · exact congrArg (fun b => some (AVal.bool b)) e4
  have w3 : (joinSym L).Ok := by
    refine ⟨?_, trivial, ?_, trivial, ?_, trivial, rfl, trivial, ?_, trivial, trivial⟩
    · exact congrArg (fun b => some (AVal.bool b)) l3
    · exact congrArg (fun b => some (AVal.bool b)) e5
    · exact congrArg (fun b => some (AVal.bool b)) b2
    · exact congrArg (fun b => some (AVal.bool b)) e6
  refine ⟨?_, trivial, ?_, trivial, ?_, trivial, ?_, trivial, a1, w2, a2, w3, trivial⟩
  · exact congrArg (fun b => some (AVal.bool b)) l1
  · exact congrArg (fun b => some (AVal.bool b)) e1
  · exact congrArg (fun b => some (AVal.bool b)) e2
  · exact congrArg (fun b => some (AVal.bool b)) e3
theorem tail7_ok : okCode tail7 = true := by kernel_rfl
theorem playSigns_tail {o0 o3 : Obj} (h0 : Is0 o0) (h3 : Is3 o3) {n : Int} {bad : ByteArray} {u : AVal} (hu : VR (fun _ => none) u (.string bad)) (hr : ∀ x : Nat → AVal, isTrue (aTail cfg3 (aCall cfg3 100000 200) 100000 Tryz.f7 tail7 (frame7 u x) noHeap) = true)
    {w : World} (hw0 : w.heap[0]? = some o0) (hw3 : w.heap[3]? = some o3) (a : Act) (W : World) (hd : a.defers = []) (hb : Below w.heap.size w W)
    (hl : ∃ l : List Value, a.tmps.toList = .int .i64 n :: .string bad :: l ∧ l.length = 57 ∧ ∀ v ∈ l, Has v) :
    tail7.wp Tryz.prog (bodyPost Tryz.prog Tryz.f7 fun e w' => e = .returned (.bool true) ∧ Below w.heap.size w w') a W := by
  obtain ⟨l, hl1, hl2, hl3⟩ := hl
  obtain ⟨x, hx⟩ := has_all l hl3
  have hc : CfgOk Tryz.prog (base o0 o3 []) cfg3 := cfgOk3 h0 h3
  have hrun := hr fun i => if i = 0 then .int .i64 n else x (i - 2)
  unfold isTrue at hrun
  split at hrun
  · rename_i H' he
    refine tail_sound hc tail7_ok he hd (β := fun _ => none) ?_ ?_ (noRel _) ?_
    · intro p hp
      simp only [base, List.mem_cons, List.not_mem_nil, or_false] at hp
      rcases hp with rfl | rfl
      · exact ⟨(hb.block 0 (Array.getElem?_eq_some_iff.1 hw0).1).trans hw0, fun _ _ _ _ e => nomatch e⟩
      · exact ⟨(hb.block 3 (Array.getElem?_eq_some_iff.1 hw3).1).trans hw3, fun _ _ _ _ e => nomatch e⟩
    · unfold FrR
      rw [hl1]
      rw [hl2] at hx
      exact .cons _ _ _ _ (.int _ _) (.cons _ _ _ _ hu hx)
    · rintro e w' ⟨β', v', rfl, hv', _, hE⟩
      cases hv'
      refine ⟨rfl, hb.trans ?_⟩
      exact (show Below W.heap.size W w' from ⟨hE.os, hE.tape, hE.output, hE.size, fun c hc => hE.frame c hc fun _ _ _ _ e => nomatch e⟩).mono hb.size
  · cases hrun
theorem playSigns_walk {o0 o3 : Obj} (h0 : Is0 o0) (h3 : Is3 o3) (n : Int) (bad : ByteArray) (hbad : bad.size ≤ 9223372036854775807) (w : World) (hw0 : w.heap[0]? = some o0) (hw3 : w.heap[3]? = some o3) :
    Calls Tryz.prog 7 #[.int .i64 n, .string bad] w fun e w' => e = .returned (.bool true) ∧ Below w.heap.size w w' := by
  have hB : ∀ p ∈ base o0 o3 [], w.heap[p.1]? = some p.2 := by
    intro p hp
    simp only [base, List.mem_cons, List.not_mem_nil, or_false] at hp
    rcases hp with rfl | rfl
    · exact hw0
    · exact hw3
  have hc : CfgOk Tryz.prog (base o0 o3 []) cfg3 := cfgOk3 h0 h3
  have hsz : bad.data.toList.length = bad.size := Array.length_toList
  have hstr : VR (fun _ => none) (.str bad.data.toList) (.string bad) := .str bad
  by_cases h1 : n < 0
  · exact runs_true hc (signsLow n bad.data.toList) hB (.cons _ _ _ _ (.sym _ _ (belowNoneOk h1) (.int _ _)) (.cons _ _ _ _ (.sym _ _ (anyTextOk _) hstr) .nil))
  by_cases h2 : 1000 < n
  · exact runs_true hc (signsHigh n bad.data.toList) hB (.cons _ _ _ _ (.sym _ _ (aboveAllOk h2) (.int _ _)) (.cons _ _ _ _ (.sym _ _ (anyTextOk _) hstr) .nil))
  by_cases h3' : 60 < bad.size
  · exact runs_true hc (signsLong n bad.data.toList) hB (.cons _ _ _ _ (.sym _ _ (withinOk (by omega) (by omega)) (.int _ _)) (.cons _ _ _ _ (.sym _ _ (longTextOk (by omega)) hstr) .nil))
  refine playSigns_head n bad hbad w (by omega) (by omega) (by omega) (fun W hW => ?_) (fun a W hd hb hns hl => ?_)
  · refine runs_true hc alive28_run (fun p hp => ?_) .nil
    rw [hW p.1 (Array.getElem?_eq_some_iff.1 (hB p hp)).1]
    exact hB p hp
  · by_cases k1 : bad.data.toList = []
    · exact playSigns_tail h0 h3 (k1 ▸ hstr) signs_empty hw0 hw3 a W hd hb hl
    by_cases k2 : bad.data.toList = [103, 101, 110]
    · exact playSigns_tail h0 h3 (k2 ▸ hstr) signs_gen hw0 hw3 a W hd hb hl
    by_cases k3 : bad.data.toList = [109, 101, 110, 100]
    · exact playSigns_tail h0 h3 (k3 ▸ hstr) signs_mend hw0 hw3 a W hd hb hl
    have hall : (bad.data.toList.all fun c => c != 32) = true := by
      rw [List.all_eq_true]
      intro c hcm
      obtain ⟨j, hj⟩ := List.getElem?_of_mem hcm
      have hlt : j < bad.size := by rw [← hsz]; exact (List.getElem?_eq_some_iff.1 hj).1
      rw [ba_get bad j hlt] at hj
      cases hj
      have := hns j hlt
      simp only [bne_iff_ne, ne_eq]
      intro e
      rw [e] at this
      exact this rfl
    exact playSigns_tail h0 h3 (.sym _ _ (badWordOk (by omega) hall k1 k2 k3) hstr) (signs_word _) hw0 hw3 a W hd hb hl
end Go.Proofs.YtoaagilfkboepaaGreatDoor
