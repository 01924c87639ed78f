/-
  HouseAdmin: the row: for every input that can be read the law returns true, and nothing that was there is turned.
-/
import Derived.Test.YtoaagilfkboepaaGreatDoorHouseAdminFacts
import Derived.Test.YtoaagilfkboepaaGreatDoorHouseAdminWit
import Derived.Test.YtoaagilfkboepaaGreatDoorHouseAdminGoes
import Derived.Test.YtoaagilfkboepaaGreatDoorHouseAdmin
set_option linter.unusedSimpArgs false
set_option linter.unusedVariables false
namespace Go.Proofs.YtoaagilfkboepaaGreatDoor
open Go Go.Sx Go.Proofs Go.RowKit Go.ChangeMaps Go.ChangeShapes Go.WideShapes Go.ChangeAt
set_option maxRecDepth 100000 in
theorem houseAdmin_lifted (os : Os) (started : os.Started) (H : Type) (enc : TypeId × Value → H) :
    ReturnsInHanded {} Tryz.checked os 5 .any (fun w args => (Rows.houseAdminSpec.pre enc Tryz.prog Tryz.f5 [] false w args ∧ laidMetH Tryz.prog laid w) ∧ sizedMet enc Tryz.prog Tryz.f5 (OpenSpec.ofChange Rows.houseAdminSpec) false w args)
      (Rows.houseAdminSpec.post enc Tryz.prog Tryz.f5 false true false false) := by
  refine returnsIn_and_shaped (C := Tryz.checked) (X := fun w _ => laidMetH Tryz.prog laid w) (fun _ _ _ hh h => h.of_heap hh) own started (by kernel_rfl) Tryz.func5 (houseAdmin_witness os H enc) ?_
  intro W base args ds gs before hval0 hW hsh hL
  have hval : ∀ (j : Nat) t v, Tryz.f5.params[j]? = some t → args[j]? = some v → Value.okWide Tryz.prog W .any base t v := hval0
  have hW' := hW
  obtain ⟨p, q, hA0, hV, rfl, _, _⟩ := hW
  have hA : DataW.TrodAll enc Tryz.prog W 0 (fun _ => true) true Tryz.f5.params.toList args.toList ds p := hA0
  rw [Tryz.params5] at hA hval
  obtain ⟨v0, d0, rfl, rfl, h0⟩ := trodAll_one hA
  obtain ⟨rfl, rfl⟩ := trodVars_none hV
  obtain ⟨s, rfl, rfl, rfl, ws⟩ := open_string Tryz.underlying9 (hval 0 9 v0 rfl rfl) h0
  simp only [List.append_nil] at hW'
  obtain ⟨o0, o3, b0, b3, w0, w3⟩ := blocks hsh hL
  refine (houseAdmin_walk b0 b3 s W w0 w3).mono fun e W' ⟨he, hb⟩ => ?_
  subst he
  exact ⟨_, rfl, _, _, _, [], [], [], hW', trodAll_mk1 (shut_bool Tryz.underlying4 _), trodAll_mk1 (shut_string Tryz.underlying9 ws), rfl, hb.frame _, fun h => by cases h⟩
theorem houseAdmin_named5 : Tryz.prog.funcNamed "variorum/variorumlaw27.HouseAdmin" = some 5 := by kernel_rfl
theorem houseAdmin_instance : Tryz.f5.isInstance Tryz.prog Rows.houseAdminRow.origin Rows.houseAdminRow.targs := of_decide_eq_true (by kernel_rfl)
theorem houseAdmin_wrapper : Tryz.f5.isWrapper Tryz.prog Rows.houseAdminRow.wrapper Rows.houseAdminRow.mainSum := by
  unfold Func.isWrapper
  first | (rw [if_pos (by decide +kernel)]; kernel_rfl) | (rw [if_neg (by decide +kernel)]; exact ⟨rfl, rfl⟩)
theorem houseAdmin_holds : Rows.HouseAdminSaid :=
  OpenClaim.holds_of_wide 5 Tryz.f5 rfl rfl rfl rfl rfl rfl rfl ⟨rfl, rfl, rfl, rfl, rfl⟩ rfl rfl rfl rfl rfl houseAdmin_named5 Tryz.func5 houseAdmin_facts houseAdmin_instance houseAdmin_wrapper
    (fun os started H enc _ => houseAdmin_lifted os started H enc)
end Go.Proofs.YtoaagilfkboepaaGreatDoor
