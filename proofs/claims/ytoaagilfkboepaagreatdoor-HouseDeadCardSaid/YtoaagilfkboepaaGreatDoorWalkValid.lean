/-
  A text of the proof.
-/
import Derived.Test.YtoaagilfkboepaaGreatDoorProg
import Derived.Test.YtoaagilfkboepaaGreatDoorSxOne
import Derived.WalkKit
import Derived.LoopTactic
set_option linter.unusedSimpArgs false
set_option linter.unusedVariables false
namespace Go.Proofs
open Go Go.RowKit

open Go.Sx (nameB)
theorem ba_get (s : ByteArray) (k : Nat) (h : k < s.size) : s.data.toList[k]? = some s[k] := by
  have h' : k < s.data.size := h
  rw [Array.getElem?_toList, Array.getElem?_eq_getElem h']
  rfl
theorem validB_bad {s : ByteArray} {k : Nat} (h : k < s.size) (hb : s[k].toNat < 97 ∨ 122 < s[k].toNat) : nameB s.data.toList = false := by
  have hm : s[k] ∈ s.data.toList := List.mem_of_getElem? (ba_get s k h)
  have : s.data.toList.all (fun c => decide (97 ≤ c.toNat) && decide (c.toNat ≤ 122)) = false := by
    rw [List.all_eq_false]
    refine ⟨_, hm, ?_⟩
    simp only [Bool.and_eq_true, decide_eq_true_eq]
    omega
  simp [nameB, this]
theorem validB_good {s : ByteArray} (hg : ∀ j (h : j < s.size), 97 ≤ (s[j]'h).toNat ∧ (s[j]'h).toNat ≤ 122) : nameB s.data.toList = (decide (1 ≤ s.size) && decide (s.size ≤ 12)) := by
  have hl : s.data.toList.length = s.size := Array.length_toList
  have : s.data.toList.all (fun c => decide (97 ≤ c.toNat) && decide (c.toNat ≤ 122)) = true := by
    rw [List.all_eq_true]
    intro c hc
    obtain ⟨j, hj⟩ := List.getElem?_of_mem hc
    have hlt : j < s.size := by rw [← hl]; exact (List.getElem?_eq_some_iff.1 hj).1
    rw [ba_get s j hlt] at hj
    cases hj
    simp only [Bool.and_eq_true, decide_eq_true_eq]
    exact hg j hlt
  simp only [nameB, this, Bool.true_and, hl]
set_option maxRecDepth 100000 in
theorem Tryz.roleValid (s : ByteArray) (hs : s.size ≤ 9223372036854775807) (w : World) : Calls Tryz.prog 56 #[.string s] w fun e w' => e = .returned (.bool (nameB s.data.toList)) ∧ w' = w := by
  go_enter Tryz.func56, Tryz.ntmps56
  go_wp2
  go_loop [6] (fun i => ∃ k : Nat, k ≤ s.size ∧ i = .int .i64 k ∧ ∀ j (h : j < s.size), j < k → 97 ≤ (s[j]'h).toNat ∧ (s[j]'h).toNat ≤ 122) (fun i => s.size - (intOf i).toNat)
  case atStart => exact ⟨0, Nat.zero_le _, rfl, fun j h h' => by omega⟩
  case round =>
    obtain ⟨k, hk, rfl, hgood⟩ := hrel
    go_wp2
    · rename_i h1 h2 h3 h4
      go_ret
      refine ⟨?_, rfl⟩
      rw [validB_bad (k := k) (by assumption) (by omega)]
      rfl
    · rename_i h1 h2 h3
      refine ⟨⟨k + 1, by omega, by simp, fun j hj hjk => ?_⟩, by simp [intOf]; omega⟩
      by_cases e : j = k
      · subst e; omega
      · exact hgood j hj (by omega)
    · rename_i h1 h2
      go_ret
      refine ⟨?_, rfl⟩
      rw [validB_bad (k := k) (by assumption) (by omega)]
      rfl
    · rename_i h1 h2 h3
      go_ret
      refine ⟨?_, rfl⟩
      rw [validB_good (fun j h => hgood j h (by omega))]
      have : decide (1 ≤ s.size) = true := decide_eq_true (by omega)
      rw [this, Bool.true_and]
      congr 2
      simp; omega
    · rename_i h1 h2 h3
      go_ret
      refine ⟨?_, rfl⟩
      rw [validB_good (fun j h => hgood j h (by omega))]
      have : decide (1 ≤ s.size) = false := decide_eq_false (by omega)
      rw [this, Bool.false_and]
      rfl
end Go.Proofs
