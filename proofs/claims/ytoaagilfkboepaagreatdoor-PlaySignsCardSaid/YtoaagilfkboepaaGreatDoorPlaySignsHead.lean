/-
  PlaySigns: the walk up to the end of the loop.
-/
import Derived.Test.YtoaagilfkboepaaGreatDoorProg
import Derived.Test.YtoaagilfkboepaaGreatDoorPlaySignsRuns
import Derived.WalkKit
import Derived.LoopTactic
import Derived.ChangeMaps5
set_option linter.unusedSimpArgs false
set_option linter.unusedVariables false
namespace Go.Proofs.YtoaagilfkboepaaGreatDoor
open Go Go.RowKit Go.Sx Go.Proofs Go.ChangeMaps
/-- Some abstract value stands for it. -/
def Has (v : Value) : Prop := ∃ x, VR (fun _ => none) x v
theorem hasUndef : Has undef := ⟨.tuple [], .tuple _ _ .nil⟩
theorem hasInt (k : IntKind) (n : Int) : Has (.int k n) := ⟨_, .int k n⟩
theorem hasBool (b : Bool) : Has (.bool b) := ⟨_, .bool b⟩
theorem hasStr (s : ByteArray) : Has (.string s) := ⟨_, .str s⟩
theorem has_all (l : List Value) (h : ∀ v ∈ l, Has v) : ∃ x : Nat → AVal, VRs (fun _ => none) ((List.range l.length).map x) l := by
  refine ⟨fun i => if hi : i < l.length then Classical.choose (h l[i] (List.getElem_mem hi)) else default, VRs.of_get (by simp) fun i a ha => ?_⟩
  rw [List.getElem?_map] at ha
  cases hr : (List.range l.length)[i]? with
  | none => rw [hr] at ha; cases ha
  | some k =>
    obtain ⟨hk, e⟩ := List.getElem?_eq_some_iff.1 hr
    simp only [List.length_range] at hk
    simp only [List.getElem_range] at e
    subst e
    rw [hr] at ha
    simp only [Option.map_some, Option.some.injEq, hk, dite_true] at ha
    subst ha
    exact ⟨l[i], List.getElem?_eq_getElem hk, Classical.choose_spec (h l[i] (List.getElem_mem hk))⟩
set_option maxRecDepth 100000 in
set_option maxHeartbeats 1000000 in
theorem playSigns_head (n : Int) (bad : ByteArray) (hbad : bad.size ≤ 9223372036854775807) (w : World) (h1 : 0 ≤ n) (h2 : n ≤ 1000) (h3 : bad.size ≤ 60)
    (ha : ∀ W, (∀ k, k < w.heap.size → W.heap[k]? = w.heap[k]?) → Calls Tryz.prog 24 #[] W fun e w' => e = .returned (.bool true) ∧ Below W.heap.size W w')
    (ht : ∀ (a : Act) (W : World), a.defers = [] → Below w.heap.size w W → (∀ j (h : j < bad.size), (bad[j]'h).toNat ≠ 32) →
      (∃ l : List Value, a.tmps.toList = .int .i64 n :: .string bad :: l ∧ l.length = 57 ∧ ∀ v ∈ l, Has v) →
      tail7.wp Tryz.prog (bodyPost Tryz.prog Tryz.f7 fun e w' => e = .returned (.bool true) ∧ Below w.heap.size w w') a W) :
    Calls Tryz.prog 7 #[.int .i64 n, .string bad] w fun e w' => e = .returned (.bool true) ∧ Below w.heap.size w w' := by
  go_enter Tryz.func7, Tryz.ntmps7
  go_wp2_with (first | (go_at_call 24; refine (ha _ (fun _ _ => rfl)).mono ?_; rintro e W ⟨rfl, hB⟩))
  rename_i hcond K hK
  go_loop [4, 5, 24, 25, 26, 27, 28, 29, 30, 31, 32, 33] (fun a4 i a24 a25 a26 a27 a28 a29 a30 a31 a32 a33 => ∃ k : Nat, k ≤ bad.size ∧ i = .int .i64 k ∧ (∀ j (h : j < bad.size), j < k → (bad[j]'h).toNat ≠ 32) ∧ Has a4 ∧ Has a24 ∧ Has a25 ∧ Has a26 ∧ Has a27 ∧ Has a28 ∧ Has a29 ∧ Has a30 ∧ Has a31 ∧ Has a32 ∧ Has a33) (fun _ i _ _ _ _ _ _ _ _ _ _ => bad.size - (intOf i).toNat)
  case atStart => exact ⟨0, Nat.zero_le _, rfl, fun j h h' => by omega, hasBool _, hasUndef, hasUndef, hasUndef, hasUndef, hasUndef, hasUndef, hasUndef, hasUndef, hasUndef, hasUndef⟩
  case round =>
    obtain ⟨k, hk, rfl, hgood, g4, g24, g25, g26, g27, g28, g29, g30, g31, g32, g33⟩ := hrel
    have hN := Nonempty.intro hK
    clear hK
    go_wp2
    · go_ret
      exact ⟨rfl, hB⟩
    · rename_i q1 q2
      refine ⟨⟨k + 1, by omega, by simp, fun j hj hjk => ?_, g4, hasInt _ _, hasStr _, hasInt _ _, hasBool _, hasInt _ _, hasInt _ _, hasStr _, hasInt _ _, hasInt _ _, hasBool _⟩, by simp [intOf]; omega⟩
      by_cases e : j = k
      · subst e
        intro h32
        rw [h32] at q2
        simp at q2
      · exact hgood j hj (by omega)
    · rename_i q1
      obtain ⟨hK'⟩ := hN
      refine hK' _ _ (ht _ _ rfl hB (fun j h => hgood j h (by omega)) ⟨_, rfl, rfl, ?_⟩)
      simp only [List.forall_mem_cons, hasUndef, hasInt, hasBool, hasStr, g4, g24, g25, g26, g27, g28, g29, g30, g31, g32, g33, true_and]
      exact fun _ h => by cases h
end Go.Proofs.YtoaagilfkboepaaGreatDoor
