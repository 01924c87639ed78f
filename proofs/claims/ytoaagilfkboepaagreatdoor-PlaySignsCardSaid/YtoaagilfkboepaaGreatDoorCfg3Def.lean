/-
  The third config of this seat's program for SX. Printed by a program of ours (cfg3.py).
-/
import Derived.Test.YtoaagilfkboepaaGreatDoorCfgDef
import Derived.Test.YtoaagilfkboepaaGreatDoorSxPrims6
set_option linter.unusedSimpArgs false
set_option linter.unusedVariables false
namespace Go.Proofs.YtoaagilfkboepaaGreatDoor
open Go Go.Sx Go.Proofs
noncomputable def prTree3 : Tr (List AVal → AHeap → Option (AVal × AHeap)) := (.node (.node (.node .leaf none (.node (.node (.node (.node (.node (.node .leaf (some pMapsClone2) .leaf) none .leaf) none .leaf) none .leaf) none (.node .leaf (some pJoinAt) .leaf)) none (.node (.node .leaf none (.node .leaf (some pCloneAt2) .leaf)) none .leaf))) none (.node (.node (.node (.node .leaf (some pSplitAt2) .leaf) none .leaf) none (.node (.node .leaf none (.node .leaf none (.node .leaf (some pItoaAt) .leaf))) none .leaf)) none .leaf)) none (.node (.node (.node (.node (.node (.node (.node (.node .leaf (some (pCopyCheckAt 207)) .leaf) none .leaf) none .leaf) none .leaf) none (.node .leaf (some pCutAt) (.node .leaf none (.node (.node .leaf (some pAtoiAt) .leaf) none .leaf)))) none (.node (.node (.node (.node .leaf (some (pStringAt 207 5)) .leaf) none .leaf) none .leaf) none (.node .leaf (some pNameAt) (.node .leaf none (.node (.node .leaf (some pMapsClone2) .leaf) none .leaf))))) none (.node (.node (.node (.node (.node (.node .leaf (some pMapsClone2) .leaf) none .leaf) none .leaf) none .leaf) none .leaf) none .leaf)) none (.node (.node (.node (.node (.node (.node (.node .leaf (some pMapsClone2) .leaf) none .leaf) none .leaf) none .leaf) none .leaf) none (.node (.node .leaf none (.node .leaf none (.node .leaf (some pMapsClone2) .leaf))) none .leaf)) none (.node (.node (.node (.node (.node (.node .leaf (some pMapsClone2) .leaf) (some pClothReadAt) .leaf) none .leaf) none .leaf) none (.node (.node (.node .leaf (some pHasBangAt) .leaf) none .leaf) none .leaf)) none (.node (.node (.node (.node .leaf (some pMapsClone2) .leaf) none .leaf) none .leaf) none .leaf)))))
noncomputable def cfg3 : Cfg := { types := tyTree.get, funcs := fnTree.get, prims := prTree3.get }
end Go.Proofs.YtoaagilfkboepaaGreatDoor
