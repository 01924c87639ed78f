/-
  TrailView: the closed facts of the row, together.
-/
import Derived.Test.YtoaagilfkboepaaGreatDoorFactsAll
import Derived.Test.YtoaagilfkboepaaGreatDoorTrailViewFactsA
import Derived.Test.YtoaagilfkboepaaGreatDoorTrailViewFactsB
import Derived.Test.YtoaagilfkboepaaGreatDoorTrailViewFactsC
set_option linter.unusedSimpArgs false
set_option linter.unusedVariables false
namespace Go.Proofs.YtoaagilfkboepaaGreatDoor
open Go Go.Sx Go.Proofs Go.RowKit
set_option maxRecDepth 100000
theorem trailView_andT {a b : Bool} (h : a = true) (g : b = true) : (a && b) = true := by rw [h, g]; rfl
theorem trailView_k1 : Rows.trailViewRow.wf (OpenSpec.ofChange Rows.trailViewSpec) = true := by kernel_rfl
theorem trailView_k4 : Tryz.f4.params.all (Tryz.prog.readableRec ·) = true := by kernel_rfl
theorem trailView_k5 : namedTie Tryz.prog Rows.trailViewRow.named Rows.trailViewSpec.vars = true := by kernel_rfl
theorem trailView_k6 : (Rows.trailViewRow.stops == []) = true := by kernel_rfl
theorem trailView_k8 : (Rows.trailViewRow.knobs == []) = true := by kernel_rfl
theorem trailView_k14 : (Rows.trailViewRow.maps == (Tryz.f4.params.toList ++ Rows.trailViewSpec.plain.varTypes Tryz.prog).any (Tryz.prog.mapsRec ·)) = true := by kernel_rfl
theorem trailView_k15 : (Rows.trailViewRow.ifaces == (Tryz.f4.params.toList ++ Rows.trailViewSpec.plain.varTypes Tryz.prog).any (Tryz.prog.ifacesRec ·)) = true := by kernel_rfl
theorem trailView_k16 : (Rows.trailViewRow.mapsOut == Tryz.prog.mapsAmong Tryz.f4.resultTypes.toList) = true := by kernel_rfl
theorem trailView_k17 : (Rows.trailViewRow.loops == (Tryz.f4.params.toList ++ Rows.trailViewSpec.plain.varTypes Tryz.prog).any (Tryz.prog.loopsFrom ·)) = true := by kernel_rfl
theorem trailView_k17b : (Rows.trailViewRow.wideKeys == (Tryz.f4.params.toList ++ Rows.trailViewSpec.plain.varTypes Tryz.prog ++ Tryz.f4.resultTypes.toList).any (Tryz.prog.wideKeysFrom ·)) = true := by kernel_rfl
theorem trailView_k18 : Rows.trailViewSpec.vars.all (Tryz.prog.varReadable ·) = true := by kernel_rfl
theorem trailView_k19 : Tryz.f4.resultTypes.all (fun t => Tryz.prog.readableRec t && decide (t < Tryz.prog.types.size)) = true := by kernel_rfl
theorem trailView_k20 : (Rows.trailViewRow.ifacesOut == Tryz.f4.resultTypes.toList.any (Tryz.prog.ifacesRec ·)) = true := by kernel_rfl
theorem trailView_k21 : (Rows.trailViewRow.loopsOut == Tryz.f4.resultTypes.toList.any (Tryz.prog.loopsFrom ·)) = true := by kernel_rfl
theorem trailView_k23 : Rows.trailViewRow.shortTexts.isNone = true := by kernel_rfl
theorem trailView_k25 : (Rows.trailViewRow.kinds == (if Rows.trailViewRow.domain.isEmpty then [] else Tryz.f4.params.toList.map fun t => match Tryz.prog.underlying t with | some (.int k) => some k | _ => Option.none)) = true := by kernel_rfl
theorem trailView_k26 : (Rows.trailViewRow.pinned == Rows.trailViewRow.pinnedBy) = true := by kernel_rfl
theorem trailView_k27 : (Rows.trailViewRow.veiled == (Tryz.f4.params.toList ++ Rows.trailViewSpec.plain.varTypes Tryz.prog ++ Tryz.f4.resultTypes.toList).any (Tryz.prog.veiledRec ·)) = true := by kernel_rfl
theorem trailView_k28 : Rows.trailViewRow.veiledFits Tryz.prog Tryz.f4.params.toList (Tryz.f4.params.toList ++ Rows.trailViewSpec.plain.varTypes Tryz.prog ++ Tryz.f4.resultTypes.toList) = true := by kernel_rfl
theorem trailView_facts : joinedFacts Tryz.prog 4 Tryz.f4 Rows.trailViewSpec Rows.trailViewRow = true := by
  unfold joinedFacts
  exact (trailView_andT (trailView_andT (trailView_andT (trailView_andT (trailView_andT (trailView_andT (trailView_andT (trailView_andT (trailView_andT (trailView_andT (trailView_andT (trailView_andT (trailView_andT (trailView_andT (trailView_andT (trailView_andT (trailView_andT (trailView_andT (trailView_andT (trailView_andT (trailView_andT (trailView_andT (trailView_andT (trailView_andT (trailView_andT (trailView_andT (trailView_andT (trailView_andT (trailView_andT (trailView_andT (trailView_andT trailView_k1 factLaidOut) factMapsRowed) trailView_k4) trailView_k5) trailView_k6) factStops) trailView_k8) factStopKnobs) trailView_inPlace) trailView_unfollowed) trailView_recurses) trailView_named) trailView_k14) trailView_k15) trailView_k16) trailView_k17) trailView_k17b) trailView_k18) trailView_k19) trailView_k20) trailView_k21) factPlainKeys) trailView_k23) factStopsHeard) factMayEnter) factLifted) factMake) trailView_k25) trailView_k26) trailView_k27) trailView_k28)

end Go.Proofs.YtoaagilfkboepaaGreatDoor
