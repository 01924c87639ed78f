/-
  TrailView: the row: for every input that can be read the law returns true, and nothing that was there is turned.
-/
import Derived.Test.YtoaagilfkboepaaGreatDoorTrailViewFacts
import Derived.Test.YtoaagilfkboepaaGreatDoorTrailViewWit
import Derived.Test.YtoaagilfkboepaaGreatDoorTrailViewGoes
import Derived.Test.YtoaagilfkboepaaGreatDoorTrailView
set_option linter.unusedSimpArgs false
set_option linter.unusedVariables false
namespace Go.Proofs.YtoaagilfkboepaaGreatDoor
open Go Go.Sx Go.Proofs Go.RowKit Go.ChangeMaps Go.ChangeShapes Go.WideShapes Go.ChangeAt
set_option maxRecDepth 100000 in
theorem trailView_lifted (os : Os) (started : os.Started) (H : Type) (enc : TypeId × Value → H) :
    ReturnsInHanded {} Tryz.checked os 4 .any (fun w args => (Rows.trailViewSpec.pre enc Tryz.prog Tryz.f4 [] false w args ∧ laidMetH Tryz.prog laid w) ∧ sizedMet enc Tryz.prog Tryz.f4 (OpenSpec.ofChange Rows.trailViewSpec) false w args)
      (Rows.trailViewSpec.post enc Tryz.prog Tryz.f4 false true false false) := by
  refine returnsIn_and_shaped (C := Tryz.checked) (X := fun w _ => laidMetH Tryz.prog laid w) (fun _ _ _ hh h => h.of_heap hh) own started (by kernel_rfl) Tryz.func4 (trailView_witness os H enc) ?_
  intro W base args ds gs before hval0 hW hsh hL
  have hval : ∀ (j : Nat) t v, Tryz.f4.params[j]? = some t → args[j]? = some v → Value.okWide Tryz.prog W .any base t v := hval0
  have hW' := hW
  obtain ⟨p, q, hA0, hV, rfl, _, _⟩ := hW
  have hA : DataW.TrodAll enc Tryz.prog W 0 (fun _ => true) true Tryz.f4.params.toList args.toList ds p := hA0
  rw [Tryz.params4] at hA hval
  obtain ⟨v0, v1, d0, d1, p0, p1, rfl, rfl, rfl, h0, h1⟩ := trodAll_two hA
  obtain ⟨rfl, rfl⟩ := trodVars_none hV
  obtain ⟨n, rfl, rfl, rfl, wn⟩ := open_int Tryz.underlying3 (hval 0 3 v0 rfl rfl) h0
  obtain ⟨m, rfl, rfl, rfl, wm⟩ := open_int Tryz.underlying3 (hval 1 3 v1 rfl rfl) h1
  simp only [List.append_nil] at hW'
  obtain ⟨o0, o3, b0, b3, w0, w3⟩ := blocks hsh hL
  refine (trailView_walk b0 b3 n m W w0 w3).mono fun e W' ⟨he, hb⟩ => ?_
  subst he
  exact ⟨_, rfl, _, _, _, [], [], [], hW', trodAll_mk1 (shut_bool Tryz.underlying4 _), trodAll_mk2 (shut_int Tryz.underlying3 wn) (shut_int Tryz.underlying3 wm), rfl, hb.frame _, fun h => by cases h⟩
theorem trailView_func : Tryz.prog.funcNamed "variorum/variorumlaw26.TrailView" = some 4 := by kernel_rfl
theorem trailView_instance : Tryz.f4.isInstance Tryz.prog Rows.trailViewRow.origin Rows.trailViewRow.targs := of_decide_eq_true (by kernel_rfl)
theorem trailView_wrapper : Tryz.f4.isWrapper Tryz.prog Rows.trailViewRow.wrapper Rows.trailViewRow.mainSum := by
  unfold Func.isWrapper
  first | (rw [if_pos (by decide +kernel)]; kernel_rfl) | (rw [if_neg (by decide +kernel)]; exact ⟨rfl, rfl⟩)
theorem trailView_holds : Rows.TrailViewSaid :=
  OpenClaim.holds_of_wide 4 Tryz.f4 rfl rfl rfl rfl rfl rfl rfl ⟨rfl, rfl, rfl, rfl, rfl⟩ rfl rfl rfl rfl rfl trailView_func Tryz.func4 trailView_facts trailView_instance trailView_wrapper
    (fun os started H enc _ => trailView_lifted os started H enc)
end Go.Proofs.YtoaagilfkboepaaGreatDoor
