/-
  HouseDead: the closed facts of the row, together.
-/
import Derived.Test.YtoaagilfkboepaaGreatDoorFactsAll
import Derived.Test.YtoaagilfkboepaaGreatDoorHouseDeadFactsA
import Derived.Test.YtoaagilfkboepaaGreatDoorHouseDeadFactsB
import Derived.Test.YtoaagilfkboepaaGreatDoorHouseDeadFactsC
set_option linter.unusedSimpArgs false
set_option linter.unusedVariables false
namespace Go.Proofs.YtoaagilfkboepaaGreatDoor
open Go Go.Sx Go.Proofs Go.RowKit
set_option maxRecDepth 100000
theorem houseDead_andT {a b : Bool} (h : a = true) (g : b = true) : (a && b) = true := by rw [h, g]; rfl
theorem houseDead_k1 : Rows.houseDeadRow.wf (OpenSpec.ofChange Rows.houseDeadSpec) = true := by kernel_rfl
theorem houseDead_k4 : Tryz.f6.params.all (Tryz.prog.readableRec ·) = true := by kernel_rfl
theorem houseDead_k5 : namedTie Tryz.prog Rows.houseDeadRow.named Rows.houseDeadSpec.vars = true := by kernel_rfl
theorem houseDead_k6 : (Rows.houseDeadRow.stops == []) = true := by kernel_rfl
theorem houseDead_k8 : (Rows.houseDeadRow.knobs == []) = true := by kernel_rfl
theorem houseDead_k14 : (Rows.houseDeadRow.maps == (Tryz.f6.params.toList ++ Rows.houseDeadSpec.plain.varTypes Tryz.prog).any (Tryz.prog.mapsRec ·)) = true := by kernel_rfl
theorem houseDead_k15 : (Rows.houseDeadRow.ifaces == (Tryz.f6.params.toList ++ Rows.houseDeadSpec.plain.varTypes Tryz.prog).any (Tryz.prog.ifacesRec ·)) = true := by kernel_rfl
theorem houseDead_k16 : (Rows.houseDeadRow.mapsOut == Tryz.prog.mapsAmong Tryz.f6.resultTypes.toList) = true := by kernel_rfl
theorem houseDead_k17 : (Rows.houseDeadRow.loops == (Tryz.f6.params.toList ++ Rows.houseDeadSpec.plain.varTypes Tryz.prog).any (Tryz.prog.loopsFrom ·)) = true := by kernel_rfl
theorem houseDead_k17b : (Rows.houseDeadRow.wideKeys == (Tryz.f6.params.toList ++ Rows.houseDeadSpec.plain.varTypes Tryz.prog ++ Tryz.f6.resultTypes.toList).any (Tryz.prog.wideKeysFrom ·)) = true := by kernel_rfl
theorem houseDead_k18 : Rows.houseDeadSpec.vars.all (Tryz.prog.varReadable ·) = true := by kernel_rfl
theorem houseDead_k19 : Tryz.f6.resultTypes.all (fun t => Tryz.prog.readableRec t && decide (t < Tryz.prog.types.size)) = true := by kernel_rfl
theorem houseDead_k20 : (Rows.houseDeadRow.ifacesOut == Tryz.f6.resultTypes.toList.any (Tryz.prog.ifacesRec ·)) = true := by kernel_rfl
theorem houseDead_k21 : (Rows.houseDeadRow.loopsOut == Tryz.f6.resultTypes.toList.any (Tryz.prog.loopsFrom ·)) = true := by kernel_rfl
theorem houseDead_k23 : Rows.houseDeadRow.shortTexts.isNone = true := by kernel_rfl
theorem houseDead_k25 : (Rows.houseDeadRow.kinds == (if Rows.houseDeadRow.domain.isEmpty then [] else Tryz.f6.params.toList.map fun t => match Tryz.prog.underlying t with | some (.int k) => some k | _ => Option.none)) = true := by kernel_rfl
theorem houseDead_k26 : (Rows.houseDeadRow.pinned == Rows.houseDeadRow.pinnedBy) = true := by kernel_rfl
theorem houseDead_k27 : (Rows.houseDeadRow.veiled == (Tryz.f6.params.toList ++ Rows.houseDeadSpec.plain.varTypes Tryz.prog ++ Tryz.f6.resultTypes.toList).any (Tryz.prog.veiledRec ·)) = true := by kernel_rfl
theorem houseDead_k28 : Rows.houseDeadRow.veiledFits Tryz.prog Tryz.f6.params.toList (Tryz.f6.params.toList ++ Rows.houseDeadSpec.plain.varTypes Tryz.prog ++ Tryz.f6.resultTypes.toList) = true := by kernel_rfl
theorem houseDead_facts : joinedFacts Tryz.prog 6 Tryz.f6 Rows.houseDeadSpec Rows.houseDeadRow = true := by
  unfold joinedFacts
  exact (houseDead_andT (houseDead_andT (houseDead_andT (houseDead_andT (houseDead_andT (houseDead_andT (houseDead_andT (houseDead_andT (houseDead_andT (houseDead_andT (houseDead_andT (houseDead_andT (houseDead_andT (houseDead_andT (houseDead_andT (houseDead_andT (houseDead_andT (houseDead_andT (houseDead_andT (houseDead_andT (houseDead_andT (houseDead_andT (houseDead_andT (houseDead_andT (houseDead_andT (houseDead_andT (houseDead_andT (houseDead_andT (houseDead_andT (houseDead_andT (houseDead_andT houseDead_k1 factLaidOut) factMapsRowed) houseDead_k4) houseDead_k5) houseDead_k6) factStops) houseDead_k8) factStopKnobs) houseDead_inPlace) houseDead_unfollowed) houseDead_recurses) houseDead_named) houseDead_k14) houseDead_k15) houseDead_k16) houseDead_k17) houseDead_k17b) houseDead_k18) houseDead_k19) houseDead_k20) houseDead_k21) factPlainKeys) houseDead_k23) factStopsHeard) factMayEnter) factLifted) factMake) houseDead_k25) houseDead_k26) houseDead_k27) houseDead_k28)

end Go.Proofs.YtoaagilfkboepaaGreatDoor
