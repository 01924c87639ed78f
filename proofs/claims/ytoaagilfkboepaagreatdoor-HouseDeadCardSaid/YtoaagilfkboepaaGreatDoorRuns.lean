/-
  A run of the interpreter that starts in the empty abstract heap: what it tells of the function, in every world that holds the library's variables.
-/
import Derived.Test.YtoaagilfkboepaaGreatDoorCfg
import Derived.KernelRfl
set_option linter.unusedSimpArgs false
set_option linter.unusedVariables false
namespace Go.Proofs.YtoaagilfkboepaaGreatDoor
open Go Go.Sx Go.Proofs Go.RowKit
theorem noRel (h : Array Obj) : Rel (fun _ => none) noHeap h := ⟨(fun _ _ e => nomatch e), (fun _ _ _ _ e => nomatch e), (fun _ _ _ _ _ _ _ _ e => nomatch e)⟩
theorem runs_true {P : Program} {B : Base} {cfg : Cfg} (hc : CfgOk P B cfg) {f : FuncId} {args : List AVal} {fuel d : Nat} (h : isTrue (aCall cfg fuel d f args noHeap) = true) {vs : Array Value} {w : World}
    (hB : ∀ p ∈ B, w.heap[p.1]? = some p.2) (hv : VRs (fun _ => none) args vs.toList) : Calls P f vs w fun e w' => e = .returned (.bool true) ∧ Below w.heap.size w w' := by
  unfold isTrue at h
  split at h
  · rename_i H' hr
    refine ((call_sound hc fuel d f args noHeap _ _ hr).2 (fun _ => none) w vs (fun p hp => ⟨hB p hp, (fun _ _ _ _ e => nomatch e)⟩) (noRel _) hv).mono ?_
    rintro e w' ⟨β', v', rfl, hv', _, hE⟩
    cases hv'
    exact ⟨rfl, hE.os, hE.tape, hE.output, hE.size, fun c hc => hE.frame c hc fun _ _ _ _ e => nomatch e⟩
  · cases h
end Go.Proofs.YtoaagilfkboepaaGreatDoor
