/-
  HouseDead: the function answers true, whatever the lines and the number are.
-/
import Derived.Test.YtoaagilfkboepaaGreatDoorHouseDeadRuns0
import Derived.Test.YtoaagilfkboepaaGreatDoorHouseDeadRuns1
import Derived.Test.YtoaagilfkboepaaGreatDoorHouseDeadRuns2
import Derived.Test.YtoaagilfkboepaaGreatDoorHouseDeadRuns3
import Derived.Test.YtoaagilfkboepaaGreatDoorHouseDeadRunsA
import Derived.Test.YtoaagilfkboepaaGreatDoorHouseDeadBody
set_option linter.unusedSimpArgs false
set_option linter.unusedVariables false
namespace Go.Proofs.YtoaagilfkboepaaGreatDoor
open Go Go.RowKit Go.Sx Go.Proofs Go.ChangeMaps
theorem add_at (b o j : Nat) : (⟨b, o, none⟩ : Addr).add j = ⟨b, o + j, none⟩ := by unfold Addr.add; split <;> simp_all
theorem loopSlot_lt {i : Nat} (h : loopSlot i = true) : i < 130 := by
  have := loopSlot_cases h
  omega
set_option maxRecDepth 100000 in
theorem houseDead_walk {o0 o3 : Obj} (h0 : Is0 o0) (h3 : Is3 o3) {l : Value} (n : Int) (w : World) (hl : Lines w l) (hw0 : w.heap[0]? = some o0) (hw3 : w.heap[3]? = some o3) :
    Calls Tryz.prog 6 #[l, .int .i64 n] w fun e w' => e = .returned (.bool true) ∧ Below w.heap.size w w' := by
  have hB : ∀ p ∈ base o0 o3 [], w.heap[p.1]? = some p.2 := by
    intro p hp
    simp only [base, List.mem_cons, List.not_mem_nil, or_false] at hp
    rcases hp with rfl | rfl
    · exact hw0
    · exact hw3
  have hc : CfgOk Tryz.prog (base o0 o3 []) cfg := cfgOk h0 h3
  have ha := runs_true hc alive27_run hB (vs := #[]) .nil
  have hlight : Calls Tryz.prog 20 #[l] w fun e W' => RetBool e ∧ W' = w := by
    cases hl with
    | nil => exact Tryz.lightNil w
    | some b o len cap ss k1 k2 k3 k4 k5 => exact Tryz.light ⟨b, o, none⟩ len cap k1 k2 ss w (fun i hi => by rw [add_at]; exact k4 i hi) k5
  by_cases hn : 0 ≤ n ∧ n ≤ 3
  · have hrun : ∀ x y, deadRes n x y = (true, some (x 0)) := by
      have : n = 0 ∨ n = 1 ∨ n = 2 ∨ n = 3 := by omega
      rcases this with rfl | rfl | rfl | rfl
      · exact dead0
      · exact dead1
      · exact dead2
      · exact dead3
    refine dead_in n hn.1 hn.2 l w hlight ha (fun W hb {c r} hcr {K} hK {tm} htm => ?_)
    cases hl with
    | nil =>
      refine dead_rest h0 h3 hrun hw0 hw3 W hb hcr hK htm (fun _ => none) .nilslice .nilslice (fun _ _ e => nomatch e) ?_
      intro β' W' ph po pv t hle hsame q0 q3 hall ht0 ht6 hT
      have e0 : t 0 = .slice none 0 0 := by
        generalize t 0 = v at ht0
        cases ht0
        rfl
      have hp := hall 6 (by omega)
      have hl0 := hall 0 (by omega)
      rw [ht6] at hp
      rw [e0] at hl0
      rw [e0, ht6] at hT ⊢
      exact dead_loop_nil ph po pv W' q0 q3 hp hl0 t (fun i hi => hall i (loopSlot_lt hi)) _ hT _ (tail9 hcr)
    | some b o len cap ss k1 k2 k3 k4 k5 =>
      refine dead_rest h0 h3 hrun hw0 hw3 W hb hcr hK htm (fun k => if k = 0 then some (b, o, o + cap) else none) (.slice 0 0 len cap 1 true)
        (.slice 0 0 len cap 1 true b o (o + cap) o cap rfl (.inl rfl) (Nat.le_refl _) (fun _ => rfl) (by omega) k1) (fun k x e => ?_) ?_
      · split at e
        · rename_i hk
          cases e
          have := hb.size
          exact ⟨by omega, by show b < W.heap.size; omega⟩
        · cases e
      intro β' W' ph po pv t hle hsame q0 q3 hall ht0 ht6 hT
      obtain ⟨c', base', n', o', cap', e0, hβ, ho, -, hcc, -, -⟩ := ht0.slice_inv
      have hβ0 : β' 0 = some (b, o, o + cap) := hle 0 _ rfl
      rw [hβ0] at hβ
      cases hβ
      have hcap' : cap' = cap := hcc rfl
      subst hcap'
      have hp := hall 6 (by omega)
      have hl0 := hall 0 (by omega)
      rw [ht6] at hp
      rw [e0] at hl0
      rw [e0, ht6] at hT ⊢
      have hoff : ∀ i, i < len → o' = o := fun i hi => by omega
      refine dead_loop ⟨b, o', none⟩ len cap' k1 k2 ss ph po pv W' q0 q3 hp (fun i hi => ?_) (fun i hi => ?_) hl0 t (fun i hi => hall i (loopSlot_lt hi)) _ hT _ (tail9 hcr)
      · have := hoff i hi
        subst this
        have h2 := k4 i hi
        rw [add_at, ← h2]
        refine (cell_same (hsame b (by have := hb.size; show b < W.heap.size; omega))).trans (cell_same (hb.block b k3))
      · have := hoff i hi
        subst this
        rw [add_at]
        exact ⟨.ptr 0 i, .ptr 0 i b o' (o' + cap') hβ0⟩
  · exact dead_out n (by omega) l w hlight ha
end Go.Proofs.YtoaagilfkboepaaGreatDoor
