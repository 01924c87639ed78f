/-
  HouseAdmin: the closed facts of the row, together.
-/
import Derived.Test.YtoaagilfkboepaaGreatDoorFactsAll
import Derived.Test.YtoaagilfkboepaaGreatDoorHouseAdminFactsA
import Derived.Test.YtoaagilfkboepaaGreatDoorHouseAdminFactsB
import Derived.Test.YtoaagilfkboepaaGreatDoorHouseAdminFactsC
set_option linter.unusedSimpArgs false
set_option linter.unusedVariables false
namespace Go.Proofs.YtoaagilfkboepaaGreatDoor
open Go Go.Sx Go.Proofs Go.RowKit
set_option maxRecDepth 100000
theorem houseAdmin_andT {a b : Bool} (h : a = true) (g : b = true) : (a && b) = true := by rw [h, g]; rfl
theorem houseAdmin_k1 : Rows.houseAdminRow.wf (OpenSpec.ofChange Rows.houseAdminSpec) = true := by kernel_rfl
theorem houseAdmin_k4 : Tryz.f5.params.all (Tryz.prog.readableRec ·) = true := by kernel_rfl
theorem houseAdmin_k5 : namedTie Tryz.prog Rows.houseAdminRow.named Rows.houseAdminSpec.vars = true := by kernel_rfl
theorem houseAdmin_k6 : (Rows.houseAdminRow.stops == []) = true := by kernel_rfl
theorem houseAdmin_k8 : (Rows.houseAdminRow.knobs == []) = true := by kernel_rfl
theorem houseAdmin_k14 : (Rows.houseAdminRow.maps == (Tryz.f5.params.toList ++ Rows.houseAdminSpec.plain.varTypes Tryz.prog).any (Tryz.prog.mapsRec ·)) = true := by kernel_rfl
theorem houseAdmin_k15 : (Rows.houseAdminRow.ifaces == (Tryz.f5.params.toList ++ Rows.houseAdminSpec.plain.varTypes Tryz.prog).any (Tryz.prog.ifacesRec ·)) = true := by kernel_rfl
theorem houseAdmin_k16 : (Rows.houseAdminRow.mapsOut == Tryz.prog.mapsAmong Tryz.f5.resultTypes.toList) = true := by kernel_rfl
theorem houseAdmin_k17 : (Rows.houseAdminRow.loops == (Tryz.f5.params.toList ++ Rows.houseAdminSpec.plain.varTypes Tryz.prog).any (Tryz.prog.loopsFrom ·)) = true := by kernel_rfl
theorem houseAdmin_k17b : (Rows.houseAdminRow.wideKeys == (Tryz.f5.params.toList ++ Rows.houseAdminSpec.plain.varTypes Tryz.prog ++ Tryz.f5.resultTypes.toList).any (Tryz.prog.wideKeysFrom ·)) = true := by kernel_rfl
theorem houseAdmin_k18 : Rows.houseAdminSpec.vars.all (Tryz.prog.varReadable ·) = true := by kernel_rfl
theorem houseAdmin_k19 : Tryz.f5.resultTypes.all (fun t => Tryz.prog.readableRec t && decide (t < Tryz.prog.types.size)) = true := by kernel_rfl
theorem houseAdmin_k20 : (Rows.houseAdminRow.ifacesOut == Tryz.f5.resultTypes.toList.any (Tryz.prog.ifacesRec ·)) = true := by kernel_rfl
theorem houseAdmin_k21 : (Rows.houseAdminRow.loopsOut == Tryz.f5.resultTypes.toList.any (Tryz.prog.loopsFrom ·)) = true := by kernel_rfl
theorem houseAdmin_k23 : Rows.houseAdminRow.shortTexts.isNone = true := by kernel_rfl
theorem houseAdmin_k25 : (Rows.houseAdminRow.kinds == (if Rows.houseAdminRow.domain.isEmpty then [] else Tryz.f5.params.toList.map fun t => match Tryz.prog.underlying t with | some (.int k) => some k | _ => Option.none)) = true := by kernel_rfl
theorem houseAdmin_k26 : (Rows.houseAdminRow.pinned == Rows.houseAdminRow.pinnedBy) = true := by kernel_rfl
theorem houseAdmin_k27 : (Rows.houseAdminRow.veiled == (Tryz.f5.params.toList ++ Rows.houseAdminSpec.plain.varTypes Tryz.prog ++ Tryz.f5.resultTypes.toList).any (Tryz.prog.veiledRec ·)) = true := by kernel_rfl
theorem houseAdmin_k28 : Rows.houseAdminRow.veiledFits Tryz.prog Tryz.f5.params.toList (Tryz.f5.params.toList ++ Rows.houseAdminSpec.plain.varTypes Tryz.prog ++ Tryz.f5.resultTypes.toList) = true := by kernel_rfl
theorem houseAdmin_facts : joinedFacts Tryz.prog 5 Tryz.f5 Rows.houseAdminSpec Rows.houseAdminRow = true := by
  unfold joinedFacts
  exact (houseAdmin_andT (houseAdmin_andT (houseAdmin_andT (houseAdmin_andT (houseAdmin_andT (houseAdmin_andT (houseAdmin_andT (houseAdmin_andT (houseAdmin_andT (houseAdmin_andT (houseAdmin_andT (houseAdmin_andT (houseAdmin_andT (houseAdmin_andT (houseAdmin_andT (houseAdmin_andT (houseAdmin_andT (houseAdmin_andT (houseAdmin_andT (houseAdmin_andT (houseAdmin_andT (houseAdmin_andT (houseAdmin_andT (houseAdmin_andT (houseAdmin_andT (houseAdmin_andT (houseAdmin_andT (houseAdmin_andT (houseAdmin_andT (houseAdmin_andT (houseAdmin_andT houseAdmin_k1 factLaidOut) factMapsRowed) houseAdmin_k4) houseAdmin_k5) houseAdmin_k6) factStops) houseAdmin_k8) factStopKnobs) houseAdmin_inPlace) houseAdmin_unfollowed) houseAdmin_recurses) houseAdmin_named) houseAdmin_k14) houseAdmin_k15) houseAdmin_k16) houseAdmin_k17) houseAdmin_k17b) houseAdmin_k18) houseAdmin_k19) houseAdmin_k20) houseAdmin_k21) factPlainKeys) houseAdmin_k23) factStopsHeard) factMayEnter) factLifted) factMake) houseAdmin_k25) houseAdmin_k26) houseAdmin_k27) houseAdmin_k28)

end Go.Proofs.YtoaagilfkboepaaGreatDoor
