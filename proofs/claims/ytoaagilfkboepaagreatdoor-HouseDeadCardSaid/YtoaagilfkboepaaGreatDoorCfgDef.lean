/-
  The config of this seat's program for SX: the tables, and the functions that are answered by Lean functions. Printed by a program of ours (cfg.py).
-/
import Derived.Test.YtoaagilfkboepaaGreatDoorTypes
import Derived.Test.YtoaagilfkboepaaGreatDoorFuncs
import Derived.Test.YtoaagilfkboepaaGreatDoorSxPrimAll
set_option linter.unusedSimpArgs false
set_option linter.unusedVariables false
namespace Go.Proofs.YtoaagilfkboepaaGreatDoor
open Go Go.Sx Go.Proofs
noncomputable def prTree : Tr (List AVal → AHeap → Option (AVal × AHeap)) := (.node (.node (.node .leaf none (.node (.node (.node (.node (.node (.node .leaf (some pMapsClone2) .leaf) none .leaf) none .leaf) none .leaf) none (.node .leaf (some pJoinAt) .leaf)) none (.node (.node .leaf none (.node .leaf (some pCloneAt2) .leaf)) none .leaf))) none (.node (.node (.node (.node .leaf (some pSplitAt) .leaf) none .leaf) none (.node (.node .leaf none (.node .leaf none (.node .leaf (some pItoaAt) .leaf))) none .leaf)) none .leaf)) none (.node (.node (.node (.node (.node (.node (.node (.node .leaf (some (pCopyCheckAt 207)) .leaf) none .leaf) none .leaf) none .leaf) none (.node .leaf (some pCutAt) (.node .leaf none (.node (.node .leaf (some pAtoiAt) .leaf) none .leaf)))) none (.node (.node (.node (.node .leaf (some (pStringAt 207 5)) .leaf) none .leaf) none .leaf) none (.node .leaf (some pNameAt) (.node .leaf none (.node (.node .leaf (some pMapsClone2) .leaf) none .leaf))))) none (.node (.node (.node (.node (.node (.node .leaf (some pMapsClone2) .leaf) none .leaf) none .leaf) none .leaf) none .leaf) none .leaf)) none (.node (.node (.node (.node (.node (.node (.node .leaf (some pMapsClone2) .leaf) none .leaf) none .leaf) none .leaf) none .leaf) none (.node (.node .leaf none (.node .leaf none (.node .leaf (some pMapsClone2) .leaf))) none .leaf)) none (.node (.node (.node (.node (.node (.node .leaf (some pMapsClone2) .leaf) (some pClothReadAt) .leaf) none .leaf) none .leaf) none .leaf) none (.node (.node (.node (.node .leaf (some pMapsClone2) .leaf) none .leaf) none .leaf) none .leaf)))))
noncomputable def cfg : Cfg := { types := tyTree.get, funcs := fnTree.get, prims := prTree.get }
/-- Does a run answer true? -/
def isTrue : Option (AVal × AHeap) → Bool
  | some (.bool true, _) => true
  | _ => false
abbrev noHeap : AHeap := ⟨.leaf, 0⟩
end Go.Proofs.YtoaagilfkboepaaGreatDoor
