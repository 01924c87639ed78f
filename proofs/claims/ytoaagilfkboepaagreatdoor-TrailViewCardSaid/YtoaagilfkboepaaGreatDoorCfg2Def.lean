/-
  The second config of this seat's program for SX. Printed by a program of ours (cfg2.py).
-/
import Derived.Test.YtoaagilfkboepaaGreatDoorCfgDef
set_option linter.unusedSimpArgs false
set_option linter.unusedVariables false
namespace Go.Proofs
open Go.Sx in
def pAppendSeqEmpty : List AVal → AHeap → Option (AVal × AHeap)
  | [.nilslice, .func f [] [.ptr c 0]], H => if f = 445 ∨ f = 522 ∨ f = 549 ∨ f = 557 then match H.get c with
      | some (.cells (.map m :: _) _ (some (_, true))) => match H.get m with
        | some (.map [] _) => some (.nilslice, H)
        | _ => none
      | _ => none
    else none
  | _, _ => none
open Go.Sx in
def pDifferEmpty : List AVal → AHeap → Option (AVal × AHeap)
  | [.map a, .map b], H => match H.get a, H.get b with
    | some (.map [] _), some (.map [] _) => some (.nilslice, H)
    | _, _ => none
  | _, _ => none
end Go.Proofs
namespace Go.Proofs.YtoaagilfkboepaaGreatDoor
open Go Go.Sx Go.Proofs
noncomputable def prTree2 : Tr (List AVal → AHeap → Option (AVal × AHeap)) := (.node (.node (.node (.node (.node .leaf none (.node (.node (.node (.node (.node .leaf (some pDifferEmpty) .leaf) none .leaf) none .leaf) none .leaf) none .leaf)) none .leaf) none (.node (.node (.node (.node (.node (.node .leaf (some pMapsClone2) .leaf) none .leaf) none .leaf) none .leaf) none (.node .leaf (some pJoinAt) .leaf)) none (.node (.node .leaf none (.node .leaf (some pCloneAt2) .leaf)) none .leaf))) none (.node (.node (.node (.node .leaf (some pSplitAt) .leaf) none .leaf) none (.node (.node .leaf none (.node .leaf none (.node .leaf (some pItoaAt) .leaf))) none .leaf)) none .leaf)) none (.node (.node (.node (.node (.node (.node (.node (.node .leaf (some (pCopyCheckAt 207)) .leaf) none .leaf) none .leaf) none .leaf) none (.node .leaf (some pCutAt) (.node .leaf none (.node (.node .leaf (some pAtoiAt) .leaf) none .leaf)))) none (.node (.node (.node (.node .leaf (some (pStringAt 207 5)) .leaf) none .leaf) none .leaf) none (.node .leaf (some pNameAt) (.node .leaf none (.node (.node .leaf (some pMapsClone2) .leaf) none .leaf))))) none (.node (.node (.node (.node (.node (.node .leaf (some pMapsClone2) .leaf) none .leaf) none .leaf) none .leaf) none .leaf) none .leaf)) none (.node (.node (.node (.node (.node (.node (.node .leaf (some pMapsClone2) .leaf) none .leaf) none .leaf) none .leaf) none .leaf) none (.node (.node .leaf none (.node .leaf none (.node .leaf (some pMapsClone2) .leaf))) none .leaf)) none (.node (.node (.node (.node (.node (.node (.node .leaf (some pAppendSeqEmpty) .leaf) (some pMapsClone2) .leaf) (some pClothReadAt) .leaf) none .leaf) none .leaf) none .leaf) none (.node (.node (.node (.node .leaf (some pMapsClone2) .leaf) none .leaf) none .leaf) none .leaf)))))
noncomputable def ty533b : TInfo := { ty533 with methods := [("Len", (464, true)), ("Less", (684, true)), ("Pop", (685, true)), ("Push", (686, true)), ("Swap", (687, true))] }
noncomputable def cfg2 : Cfg := { types := fun t => match t with | 533 => some ty533b | t => tyTree.get t, funcs := fun f => match f with | 350 => some Tryz.f350 | 685 => some Tryz.f685 | 686 => some Tryz.f686 | 687 => some Tryz.f687 | f => fnTree.get f, prims := prTree2.get }
end Go.Proofs.YtoaagilfkboepaaGreatDoor
