/-
  A text of the proof.
-/
import Derived.Test.YtoaagilfkboepaaGreatDoorWalkSeq
import Derived.LoopN
set_option linter.unusedSimpArgs false
set_option linter.unusedVariables false
namespace Go.Proofs
open Go Go.RowKit Go.Shelf
set_option maxRecDepth 100000
set_option maxHeartbeats 1000000
theorem next_empty (W : World) (ty : TypeId) (b clock : Nat) (hb : W.heap[b]? = some (.map #[] clock)) :
    (Instr.next (.pointer (some ⟨W.heap.size, 0, none⟩)) false ty).run Tryz.prog (W.alloc (.mapIter (some b) clock #[] clock)) = .ok (.tuple #[.bool false]) (W.alloc (.mapIter (some b) clock #[] clock)) := by
  rcases run_next_map (P := Tryz.prog) W ty b clock clock #[] #[] clock hb (by simp) (Nat.le_refl _) with h | ⟨e, he, _⟩
  · exact h.2
  · simp [leftOf] at he
theorem Tryz.differEmpty (b1 b2 c1 c2 : Nat) (w : World) (h1 : w.heap[b1]? = some (.map #[] c1)) (h2 : w.heap[b2]? = some (.map #[] c2))
    (hs : ∀ W, Below w.heap.size w W → Calls Tryz.prog 444 #[.slice none 0 0] W fun e W' => e = .returned (.tuple #[]) ∧ Below W.heap.size W W') :
    Calls Tryz.prog 527 #[.map (some b1), .map (some b2)] w fun e w' => e = .returned (.slice none 0 0) ∧ Below w.heap.size w w' := by
  go_enter Tryz.func527, Tryz.ntmps527
  have hrg := run_range_map (P := Tryz.prog) w 611 3 9 b1 #[] c1 Tryz.underlying611 h1
  have hnx : ∀ ty, (Instr.next (.pointer (some ⟨w.heap.size, 0, none⟩)) false ty).run Tryz.prog (w.alloc (.mapIter (some b1) c1 #[] c1)) = _ := fun ty => next_empty w ty b1 c1 h1
  go_wp2
  refine wp_loop_rounds 1 ?_
  rw [rounds_succ]
  have hlt2 : b2 < w.heap.size := (Array.getElem?_eq_some_iff.1 h2).1
  obtain ⟨W1, hW1⟩ : ∃ W1, w.alloc (.mapIter (some b1) c1 #[] c1) = W1 := ⟨_, rfl⟩
  have hB1 : Below w.heap.size w W1 := by rw [← hW1]; exact (Below.refl _ w).alloc (Nat.le_refl _) _
  have g2 : W1.heap[b2]? = some (.map #[] c2) := (hB1.block b2 hlt2).trans h2
  rw [hW1] at hrg hnx ⊢
  have hrg2 := run_range_map (P := Tryz.prog) W1 611 3 9 b2 #[] c2 Tryz.underlying611 g2
  have hnx2 : ∀ ty, (Instr.next (.pointer (some ⟨W1.heap.size, 0, none⟩)) false ty).run Tryz.prog (W1.alloc (.mapIter (some b2) c2 #[] c2)) = _ := fun ty => next_empty W1 ty b2 c2 g2
  go_wp2
  refine wp_loop_rounds 1 ?_
  rw [rounds_succ]
  obtain ⟨W2, hW2⟩ : ∃ W2, W1.alloc (.mapIter (some b2) c2 #[] c2) = W2 := ⟨_, rfl⟩
  have hB2 : Below w.heap.size w W2 := by rw [← hW2]; exact hB1.alloc hB1.size _
  rw [hW2] at hrg2 hnx2 ⊢
  go_wp2_with (first
    | (go_at_call 444; refine (hs _ hB2).mono ?_; rintro e W3 ⟨rfl, hB3⟩))
  go_ret
  exact ⟨rfl, hB2.trans (hB3.mono hB2.size)⟩
end Go.Proofs
