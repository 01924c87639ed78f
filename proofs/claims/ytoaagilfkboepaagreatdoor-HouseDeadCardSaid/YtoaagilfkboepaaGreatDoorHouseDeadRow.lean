/-
  HouseDead: the row: for every input that can be read the law returns true, and nothing that was there is turned.
-/
import Derived.Test.YtoaagilfkboepaaGreatDoorHouseDeadFacts
import Derived.Test.YtoaagilfkboepaaGreatDoorHouseDeadWit
import Derived.Test.YtoaagilfkboepaaGreatDoorHouseDeadGoes
import Derived.Test.YtoaagilfkboepaaGreatDoorHouseDead
import Derived.SliceStrings
import Derived.WideKeyArgs
import Derived.WideShapes
set_option linter.unusedSimpArgs false
set_option linter.unusedVariables false
namespace Go.Proofs.YtoaagilfkboepaaGreatDoor
open Go Go.Sx Go.Proofs Go.RowKit Go.ChangeMaps Go.ChangeShapes Go.WideShapes Go.ChangeAt
theorem same_at {W W' : World} (hb : Below W.heap.size W W') {p : MemPlace} (hp : p.block < W.heap.size) : W.sameAt W' p := by
  cases p with
  | cell b off => exact cell_same (hb.block b hp)
  | map b => exact hb.block b hp
set_option maxRecDepth 100000 in
theorem lines_of {H : Type} {enc : TypeId × Value → H} {W : World} {b0 : Nat} {v : Value} {d : DataW H} {ps : List MemPlace} (hok : Value.okWide Tryz.prog W .any b0 27 v) (h : DataW.Trod enc Tryz.prog W 0 (fun _ => true) true 27 v d ps) :
    Lines W v ∧ ∀ p ∈ ps, p.block < W.heap.size := by
  obtain ⟨a, len, cap, rfl⟩ := okWide_slice Tryz.underlying27 hok
  obtain ⟨fuel, hf⟩ := h
  rcases open_strings Tryz.underlying27 Tryz.underlying9 (by kernel_rfl) hf with ⟨e1, e2⟩ | ⟨a', len', cap', ss, e1, -, h1, h2, h3, e2, h4, h5⟩
  · simp only [Value.cells, List.cons.injEq, Value.slice.injEq, and_true] at e1
    obtain ⟨rfl, rfl, rfl⟩ := e1
    cases e2
    exact ⟨.nil, fun p hp => by cases hp⟩
  · simp only [Value.cells, List.cons.injEq, Value.slice.injEq, and_true] at e1
    obtain ⟨rfl, rfl, rfl⟩ := e1
    simp only [if_true] at h3
    cases e2
    unfold Value.okWide at hok
    rw [Tryz.underlying27] at hok
    simp only [Cell.okWide, Cell.ok, Tryz.underlying27] at hok
    obtain ⟨-, -, -, hspot, row, cells, hsh, -⟩ := hok
    have hlt : a'.block < W.heap.size := by
      unfold World.shape? at hsh
      split at hsh
      · rename_i hg
        exact (Array.getElem?_eq_some_iff.1 hg).1
      · cases hsh
    obtain ⟨b, o, sp⟩ := a'
    simp only at hspot hlt
    subst hspot
    refine ⟨.some b o len cap (fun i => ss.getD i ByteArray.empty) h1 (Nat.le_trans h2 (by decide +kernel)) hlt (fun i hi => ?_) (fun i => ?_), fun p hp => ?_⟩
    · rw [← add_at]
      exact h4 i (by omega)
    · by_cases hi : i < ss.length
      · have := h5 (ss.getD i ByteArray.empty) (by simp [List.getD, hi])
        exact Nat.le_trans this (by decide +kernel)
      · have : ss.getD i ByteArray.empty = ByteArray.empty := by simp [List.getD, hi]
        rw [this]
        decide
    · obtain ⟨i, _, rfl⟩ := MemPlace.mem_row.1 hp
      exact hlt
set_option maxRecDepth 100000 in
theorem houseDead_lifted (os : Os) (started : os.Started) (H : Type) (enc : TypeId × Value → H) :
    ReturnsInHanded {} Tryz.checked os 6 .any (fun w args => (Rows.houseDeadSpec.pre enc Tryz.prog Tryz.f6 [] false w args ∧ laidMetH Tryz.prog laid w) ∧ sizedMet enc Tryz.prog Tryz.f6 (OpenSpec.ofChange Rows.houseDeadSpec) false w args)
      (Rows.houseDeadSpec.post enc Tryz.prog Tryz.f6 false true false false) := by
  refine returnsIn_and_shaped (C := Tryz.checked) (X := fun w _ => laidMetH Tryz.prog laid w) (fun _ _ _ hh h => h.of_heap hh) own started (by kernel_rfl) Tryz.func6 (houseDead_witness os H enc) ?_
  intro W base args ds gs before hval0 hW hsh hL
  have hval : ∀ (j : Nat) t v, Tryz.f6.params[j]? = some t → args[j]? = some v → Value.okWide Tryz.prog W .any base t v := hval0
  have hW' := hW
  obtain ⟨p, q, hA0, hV, rfl, _, _⟩ := hW
  have hA : DataW.TrodAll enc Tryz.prog W 0 (fun _ => true) true Tryz.f6.params.toList args.toList ds p := hA0
  rw [Tryz.params6] at hA hval
  obtain ⟨v0, v1, d0, d1, p0, p1, rfl, rfl, rfl, h0, h1⟩ := trodAll_two hA
  obtain ⟨rfl, rfl⟩ := trodVars_none hV
  obtain ⟨n, rfl, rfl, rfl, wn⟩ := open_int Tryz.underlying3 (hval 1 3 v1 rfl rfl) h1
  obtain ⟨hlines, hplaces⟩ := lines_of (hval 0 27 v0 rfl rfl) h0
  simp only [List.append_nil] at hW'
  obtain ⟨o0, o3, b0, b3, w0, w3⟩ := blocks hsh hL
  refine (houseDead_walk b0 b3 n W hlines w0 w3).mono fun e W' ⟨he, hb⟩ => ?_
  subst he
  have h0' := Go.WideElems.Trod_stays (W' := W') (sp' := fun b => decide (b < W.heap.size)) factLaidOut (by kernel_rfl) (by decide +kernel) h0 (fun p hp => same_at hb (hplaces p hp)) (fun p hp => decide_eq_true (hplaces p hp))
  exact ⟨_, rfl, _, _, _, [], _, [], hW', trodAll_mk1 (shut_bool Tryz.underlying4 _), trodAll_mk2 h0' (shut_int Tryz.underlying3 wn), rfl, hb.frame _, fun h => by cases h⟩
theorem houseDead_func : Tryz.prog.funcNamed "variorum/variorumlaw27.HouseDead" = some 6 := by kernel_rfl
theorem houseDead_instance : Tryz.f6.isInstance Tryz.prog Rows.houseDeadRow.origin Rows.houseDeadRow.targs := of_decide_eq_true (by kernel_rfl)
theorem houseDead_wrapper : Tryz.f6.isWrapper Tryz.prog Rows.houseDeadRow.wrapper Rows.houseDeadRow.mainSum := by
  unfold Func.isWrapper
  first | (rw [if_pos (by decide +kernel)]; kernel_rfl) | (rw [if_neg (by decide +kernel)]; exact ⟨rfl, rfl⟩)
theorem houseDead_holds : Rows.HouseDeadSaid :=
  OpenClaim.holds_of_wide 6 Tryz.f6 rfl rfl rfl rfl rfl rfl rfl ⟨rfl, rfl, rfl, rfl, rfl⟩ rfl rfl rfl rfl rfl houseDead_func Tryz.func6 houseDead_facts houseDead_instance houseDead_wrapper
    (fun os started H enc _ => houseDead_lifted os started H enc)
end Go.Proofs.YtoaagilfkboepaaGreatDoor
