/-
  HouseDead: the law returns true for every input, and the input reads as it did. The tied card of the given statement.
  Conditions: the listed variables of Go's library read as the program's text lays them (tied here).
-/
import Derived.Test.YtoaagilfkboepaaGreatDoorTieAll
import Derived.Test.YtoaagilfkboepaaGreatDoorHouseDeadRow
import Derived.Test.YtoaagilfkboepaaGreatDoorCards
set_option linter.unusedSimpArgs false
set_option linter.unusedVariables false
namespace Go.Proofs.YtoaagilfkboepaaGreatDoor
open Go
theorem houseDead_tie : Rows.houseDeadRow.laidByTextAt .later Tryz.pinned [.pinned, .data, .sentinel, .sentinel, .data, .data, .data] true :=
  OpenClaim.laidByTextAt_pinned rfl rfl tie rfl rfl rfl rfl (fun y hy _e => by
    simp only [Rows.houseDeadRow, List.zip_cons_cons, List.zip_nil_right, List.mem_cons, List.mem_nil_iff, or_false] at hy
    rcases hy with rfl | rfl | rfl | rfl | rfl | rfl | rfl
    · exact ⟨tiePin, by kernel_rfl⟩
    · cases _e
    · cases _e
    · cases _e
    · cases _e
    · cases _e
    · cases _e) tieFits
theorem houseDead_card : Rows.HouseDeadCardSaid :=
  Claim7.holds_tied_plain_at .later [] [.pinned, .data, .sentinel, .sentinel, .data, .data, .data] true (true, "e3a97d22c2768d4ef9f3429d5c08a76ead0b6677593415d98cf2d3851de0fe10") true
    houseDead_holds (fun _ h => by cases h) (by kernel_rfl) (fun _ h => by cases h) houseDead_tie rfl ⟨rfl, rfl⟩ tieMain rfl
    (fun f fn hf hfn => by
      obtain rfl : f = 6 := Option.some.inj ((show Tryz.prog.funcNamed "variorum/variorumlaw27.HouseDead" = some 6 by kernel_rfl).symm.trans hf) |>.symm
      obtain rfl : fn = Tryz.f6 := (Option.some.inj (Tryz.func6.symm.trans hfn)).symm
      exact ⟨tieLooks, fun j t ht => by
        rw [Tryz.params6] at ht
        have hm : t ∈ [27, 3] := by simpa using Array.mem_of_getElem? ht
        have hall : ([27, 3].all fun u => !Tryz.prog.wantsStandIn u) = true := by kernel_rfl
        exact (show Tryz.prog.wantsStandIn t = false by simpa using List.all_eq_true.1 hall t hm)⟩)
    houseDead_goes
#print axioms houseDead_card
end Go.Proofs.YtoaagilfkboepaaGreatDoor
