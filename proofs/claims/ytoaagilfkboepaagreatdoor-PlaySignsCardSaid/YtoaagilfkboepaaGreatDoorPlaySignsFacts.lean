/-
  PlaySigns: the closed facts of the row, together.
-/
import Derived.Test.YtoaagilfkboepaaGreatDoorFactsAll
import Derived.Test.YtoaagilfkboepaaGreatDoorPlaySignsFactsA
import Derived.Test.YtoaagilfkboepaaGreatDoorPlaySignsFactsB
import Derived.Test.YtoaagilfkboepaaGreatDoorPlaySignsFactsC
set_option linter.unusedSimpArgs false
set_option linter.unusedVariables false
namespace Go.Proofs.YtoaagilfkboepaaGreatDoor
open Go Go.Sx Go.Proofs Go.RowKit
set_option maxRecDepth 100000
theorem playSigns_andT {a b : Bool} (h : a = true) (g : b = true) : (a && b) = true := by rw [h, g]; rfl
theorem playSigns_k1 : Rows.playSignsRow.wf (OpenSpec.ofChange Rows.playSignsSpec) = true := by kernel_rfl
theorem playSigns_k4 : Tryz.f7.params.all (Tryz.prog.readableRec ·) = true := by kernel_rfl
theorem playSigns_k5 : namedTie Tryz.prog Rows.playSignsRow.named Rows.playSignsSpec.vars = true := by kernel_rfl
theorem playSigns_k6 : (Rows.playSignsRow.stops == []) = true := by kernel_rfl
theorem playSigns_k8 : (Rows.playSignsRow.knobs == []) = true := by kernel_rfl
theorem playSigns_k14 : (Rows.playSignsRow.maps == (Tryz.f7.params.toList ++ Rows.playSignsSpec.plain.varTypes Tryz.prog).any (Tryz.prog.mapsRec ·)) = true := by kernel_rfl
theorem playSigns_k15 : (Rows.playSignsRow.ifaces == (Tryz.f7.params.toList ++ Rows.playSignsSpec.plain.varTypes Tryz.prog).any (Tryz.prog.ifacesRec ·)) = true := by kernel_rfl
theorem playSigns_k16 : (Rows.playSignsRow.mapsOut == Tryz.prog.mapsAmong Tryz.f7.resultTypes.toList) = true := by kernel_rfl
theorem playSigns_k17 : (Rows.playSignsRow.loops == (Tryz.f7.params.toList ++ Rows.playSignsSpec.plain.varTypes Tryz.prog).any (Tryz.prog.loopsFrom ·)) = true := by kernel_rfl
theorem playSigns_k17b : (Rows.playSignsRow.wideKeys == (Tryz.f7.params.toList ++ Rows.playSignsSpec.plain.varTypes Tryz.prog ++ Tryz.f7.resultTypes.toList).any (Tryz.prog.wideKeysFrom ·)) = true := by kernel_rfl
theorem playSigns_k18 : Rows.playSignsSpec.vars.all (Tryz.prog.varReadable ·) = true := by kernel_rfl
theorem playSigns_k19 : Tryz.f7.resultTypes.all (fun t => Tryz.prog.readableRec t && decide (t < Tryz.prog.types.size)) = true := by kernel_rfl
theorem playSigns_k20 : (Rows.playSignsRow.ifacesOut == Tryz.f7.resultTypes.toList.any (Tryz.prog.ifacesRec ·)) = true := by kernel_rfl
theorem playSigns_k21 : (Rows.playSignsRow.loopsOut == Tryz.f7.resultTypes.toList.any (Tryz.prog.loopsFrom ·)) = true := by kernel_rfl
theorem playSigns_k23 : Rows.playSignsRow.shortTexts.isNone = true := by kernel_rfl
theorem playSigns_k25 : (Rows.playSignsRow.kinds == (if Rows.playSignsRow.domain.isEmpty then [] else Tryz.f7.params.toList.map fun t => match Tryz.prog.underlying t with | some (.int k) => some k | _ => Option.none)) = true := by kernel_rfl
theorem playSigns_k26 : (Rows.playSignsRow.pinned == Rows.playSignsRow.pinnedBy) = true := by kernel_rfl
theorem playSigns_k27 : (Rows.playSignsRow.veiled == (Tryz.f7.params.toList ++ Rows.playSignsSpec.plain.varTypes Tryz.prog ++ Tryz.f7.resultTypes.toList).any (Tryz.prog.veiledRec ·)) = true := by kernel_rfl
theorem playSigns_k28 : Rows.playSignsRow.veiledFits Tryz.prog Tryz.f7.params.toList (Tryz.f7.params.toList ++ Rows.playSignsSpec.plain.varTypes Tryz.prog ++ Tryz.f7.resultTypes.toList) = true := by kernel_rfl
theorem playSigns_facts : joinedFacts Tryz.prog 7 Tryz.f7 Rows.playSignsSpec Rows.playSignsRow = true := by
  unfold joinedFacts
  exact (playSigns_andT (playSigns_andT (playSigns_andT (playSigns_andT (playSigns_andT (playSigns_andT (playSigns_andT (playSigns_andT (playSigns_andT (playSigns_andT (playSigns_andT (playSigns_andT (playSigns_andT (playSigns_andT (playSigns_andT (playSigns_andT (playSigns_andT (playSigns_andT (playSigns_andT (playSigns_andT (playSigns_andT (playSigns_andT (playSigns_andT (playSigns_andT (playSigns_andT (playSigns_andT (playSigns_andT (playSigns_andT (playSigns_andT (playSigns_andT (playSigns_andT playSigns_k1 factLaidOut) factMapsRowed) playSigns_k4) playSigns_k5) playSigns_k6) factStops) playSigns_k8) factStopKnobs) playSigns_inPlace) playSigns_unfollowed) playSigns_recurses) playSigns_named) playSigns_k14) playSigns_k15) playSigns_k16) playSigns_k17) playSigns_k17b) playSigns_k18) playSigns_k19) playSigns_k20) playSigns_k21) factPlainKeys) playSigns_k23) factStopsHeard) factMayEnter) factLifted) factMake) playSigns_k25) playSigns_k26) playSigns_k27) playSigns_k28)

end Go.Proofs.YtoaagilfkboepaaGreatDoor
