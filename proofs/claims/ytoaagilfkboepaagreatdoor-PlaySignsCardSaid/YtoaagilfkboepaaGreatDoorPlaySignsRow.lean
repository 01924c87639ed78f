/-
  PlaySigns: the row: for every input that can be read the law returns true, and nothing that was there is turned.
-/
import Derived.Test.YtoaagilfkboepaaGreatDoorPlaySignsFacts
import Derived.Test.YtoaagilfkboepaaGreatDoorPlaySignsWit
import Derived.Test.YtoaagilfkboepaaGreatDoorPlaySignsGoes
import Derived.Test.YtoaagilfkboepaaGreatDoorPlaySigns
set_option linter.unusedSimpArgs false
set_option linter.unusedVariables false
namespace Go.Proofs.YtoaagilfkboepaaGreatDoor
open Go Go.Sx Go.Proofs Go.RowKit Go.ChangeMaps Go.ChangeShapes Go.WideShapes Go.ChangeAt
set_option maxRecDepth 100000 in
theorem playSigns_lifted (os : Os) (started : os.Started) (H : Type) (enc : TypeId × Value → H) :
    ReturnsInHanded {} Tryz.checked os 7 .any (fun w args => (Rows.playSignsSpec.pre enc Tryz.prog Tryz.f7 [] false w args ∧ laidMetH Tryz.prog laid w) ∧ sizedMet enc Tryz.prog Tryz.f7 (OpenSpec.ofChange Rows.playSignsSpec) false w args)
      (Rows.playSignsSpec.post enc Tryz.prog Tryz.f7 false true false false) := by
  refine returnsIn_and_shaped (C := Tryz.checked) (X := fun w _ => laidMetH Tryz.prog laid w) (fun _ _ _ hh h => h.of_heap hh) own started (by kernel_rfl) Tryz.func7 (playSigns_witness os H enc) ?_
  intro W base args ds gs before hval0 hW hsh hL
  have hval : ∀ (j : Nat) t v, Tryz.f7.params[j]? = some t → args[j]? = some v → Value.okWide Tryz.prog W .any base t v := hval0
  have hW' := hW
  obtain ⟨p, q, hA0, hV, rfl, _, _⟩ := hW
  have hA : DataW.TrodAll enc Tryz.prog W 0 (fun _ => true) true Tryz.f7.params.toList args.toList ds p := hA0
  rw [Tryz.params7] at hA hval
  obtain ⟨v0, v1, d0, d1, p0, p1, rfl, rfl, rfl, h0, h1⟩ := trodAll_two hA
  obtain ⟨rfl, rfl⟩ := trodVars_none hV
  obtain ⟨n, rfl, rfl, rfl, wn⟩ := open_int Tryz.underlying3 (hval 0 3 v0 rfl rfl) h0
  obtain ⟨s, rfl, rfl, rfl, ws⟩ := open_string Tryz.underlying9 (hval 1 9 v1 rfl rfl) h1
  simp only [List.append_nil] at hW'
  obtain ⟨o0, o3, b0, b3, w0, w3⟩ := blocks hsh hL
  have hs : s.size ≤ 9223372036854775807 := Nat.le_trans ws (by decide +kernel)
  refine (playSigns_walk b0 b3 n s hs W w0 w3).mono fun e W' ⟨he, hb⟩ => ?_
  subst he
  exact ⟨_, rfl, _, _, _, [], [], [], hW', trodAll_mk1 (shut_bool Tryz.underlying4 _), trodAll_mk2 (shut_int Tryz.underlying3 wn) (shut_string Tryz.underlying9 ws), rfl, hb.frame _, fun h => by cases h⟩
theorem playSigns_func : Tryz.prog.funcNamed "variorum/variorumlaw28.PlaySigns" = some 7 := by kernel_rfl
theorem playSigns_instance : Tryz.f7.isInstance Tryz.prog Rows.playSignsRow.origin Rows.playSignsRow.targs := of_decide_eq_true (by kernel_rfl)
theorem playSigns_wrapper : Tryz.f7.isWrapper Tryz.prog Rows.playSignsRow.wrapper Rows.playSignsRow.mainSum := by
  unfold Func.isWrapper
  first | (rw [if_pos (by decide +kernel)]; kernel_rfl) | (rw [if_neg (by decide +kernel)]; exact ⟨rfl, rfl⟩)
theorem playSigns_holds : Rows.PlaySignsSaid :=
  OpenClaim.holds_of_wide 7 Tryz.f7 rfl rfl rfl rfl rfl rfl rfl ⟨rfl, rfl, rfl, rfl, rfl⟩ rfl rfl rfl rfl rfl playSigns_func Tryz.func7 playSigns_facts playSigns_instance playSigns_wrapper
    (fun os started H enc _ => playSigns_lifted os started H enc)
end Go.Proofs.YtoaagilfkboepaaGreatDoor
