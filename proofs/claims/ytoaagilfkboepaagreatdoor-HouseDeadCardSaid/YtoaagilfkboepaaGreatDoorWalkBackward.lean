/-
  A text of the proof.
-/
import Derived.Test.YtoaagilfkboepaaGreatDoorProg
import Derived.RangeFuncIn
import Derived.RangeFuncLeaves
import Derived.RangeFuncRecord
import Derived.TacticsIn
import Derived.BigFrameIn
import Derived.WalkKit
import Derived.LoopNIn
import Derived.Below
set_option linter.unusedSimpArgs false
set_option linter.unusedVariables false
namespace Go.Proofs
open Go Go.RowKit
set_option maxRecDepth 100000 in
theorem Tryz.backwardNil (F : Fence) (n : Nat) (h : F.fn 370) (hro : F.round = none) (y : Value) (B : Nat) (W : World) (hc : W.cell? ⟨B, 0, none⟩ = some (.slice none 0 0)) :
    CallsIn F n Tryz.prog 370 #[y, .pointer (some ⟨B, 0, none⟩)] W fun e W' => (∃ v, e = .returned v) ∧ W' = W := by
  refine callsIn_of_wp Tryz.func370 rfl h ?_ hro
  simp only [Tryz.ntmps370, List.size_toArray, List.length_cons, List.length_nil, Nat.reduceAdd, Nat.reduceSub, Array.replicate_succ, Array.replicate_zero, List.push_toArray, List.append_toArray, List.nil_append, List.cons_append]
  gi_wp2
  refine wpIn_loop_rounds 1 ?_
  rw [roundsIn_succ]
  gi_wp2
  exact ⟨rfl, _, results_none rfl _ _ _, ⟨_, rfl⟩, rfl⟩
end Go.Proofs
