/-
  A text of the proof.
-/
import Derived.Test.YtoaagilfkboepaaGreatDoorProg
import Derived.Test.YtoaagilfkboepaaGreatDoorWalkRead
import Derived.Test.YtoaagilfkboepaaGreatDoorCfg2Def
import Derived.Laws.IdiomRangeMap
set_option linter.unusedSimpArgs false
set_option linter.unusedVariables false
namespace Go.Proofs
open Go Go.RowKit Go.Shelf
set_option maxRecDepth 100000
/-- maps.Keys of an empty map: its iterator calls nobody. -/
theorem Tryz.keysEmpty445 (n : Nat) (y : Value) (B b clock : Nat) (W : World) (hm : W.cell? ⟨B, 0, none⟩ = some (.map (some b))) (hb : W.heap[b]? = some (.map #[] clock)) :
    CallsIn Fence.wide n Tryz.prog 445 #[y, .pointer (some ⟨B, 0, none⟩)] W fun e W' => (∃ v, e = .returned v) ∧ Below W.heap.size W W' := by
  refine callsIn_of_wp Tryz.func445 rfl trivial ?_ rfl
  simp only [Tryz.ntmps445, List.size_toArray, List.length_cons, List.length_nil, Nat.reduceAdd, Nat.reduceSub, Array.replicate_succ, Array.replicate_zero, List.push_toArray, List.append_toArray, List.nil_append, List.cons_append]
  have hrg := run_range_map (P := Tryz.prog) W 308 3 62 b #[] clock Tryz.underlying308 hb
  have hnx : ∀ ty, (Instr.next (.pointer (some ⟨W.heap.size, 0, none⟩)) false ty).run Tryz.prog (W.alloc (.mapIter (some b) clock #[] clock)) = .ok (.tuple #[.bool false]) (W.alloc (.mapIter (some b) clock #[] clock)) := fun ty => by
    rcases run_next_map (P := Tryz.prog) W ty b clock clock #[] #[] clock hb (by simp) (Nat.le_refl _) with h | ⟨e, he, _⟩
    · exact h.2
    · simp [leftOf] at he
  gi_wp2
  refine wpIn_loop_rounds 1 ?_
  rw [roundsIn_succ]
  gi_wp2
  exact ⟨rfl, _, results_none rfl _ _ _, ⟨_, rfl⟩, (Below.refl _ _).alloc (Nat.le_refl _) _⟩

/-- maps.Keys of an empty map: its iterator calls nobody. -/
theorem Tryz.keysEmpty522 (n : Nat) (y : Value) (B b clock : Nat) (W : World) (hm : W.cell? ⟨B, 0, none⟩ = some (.map (some b))) (hb : W.heap[b]? = some (.map #[] clock)) :
    CallsIn Fence.wide n Tryz.prog 522 #[y, .pointer (some ⟨B, 0, none⟩)] W fun e W' => (∃ v, e = .returned v) ∧ Below W.heap.size W W' := by
  refine callsIn_of_wp Tryz.func522 rfl trivial ?_ rfl
  simp only [Tryz.ntmps522, List.size_toArray, List.length_cons, List.length_nil, Nat.reduceAdd, Nat.reduceSub, Array.replicate_succ, Array.replicate_zero, List.push_toArray, List.append_toArray, List.nil_append, List.cons_append]
  have hrg := run_range_map (P := Tryz.prog) W 440 3 3 b #[] clock Tryz.underlying440 hb
  have hnx : ∀ ty, (Instr.next (.pointer (some ⟨W.heap.size, 0, none⟩)) false ty).run Tryz.prog (W.alloc (.mapIter (some b) clock #[] clock)) = .ok (.tuple #[.bool false]) (W.alloc (.mapIter (some b) clock #[] clock)) := fun ty => by
    rcases run_next_map (P := Tryz.prog) W ty b clock clock #[] #[] clock hb (by simp) (Nat.le_refl _) with h | ⟨e, he, _⟩
    · exact h.2
    · simp [leftOf] at he
  gi_wp2
  refine wpIn_loop_rounds 1 ?_
  rw [roundsIn_succ]
  gi_wp2
  exact ⟨rfl, _, results_none rfl _ _ _, ⟨_, rfl⟩, (Below.refl _ _).alloc (Nat.le_refl _) _⟩

/-- maps.Keys of an empty map: its iterator calls nobody. -/
theorem Tryz.keysEmpty549 (n : Nat) (y : Value) (B b clock : Nat) (W : World) (hm : W.cell? ⟨B, 0, none⟩ = some (.map (some b))) (hb : W.heap[b]? = some (.map #[] clock)) :
    CallsIn Fence.wide n Tryz.prog 549 #[y, .pointer (some ⟨B, 0, none⟩)] W fun e W' => (∃ v, e = .returned v) ∧ Below W.heap.size W W' := by
  refine callsIn_of_wp Tryz.func549 rfl trivial ?_ rfl
  simp only [Tryz.ntmps549, List.size_toArray, List.length_cons, List.length_nil, Nat.reduceAdd, Nat.reduceSub, Array.replicate_succ, Array.replicate_zero, List.push_toArray, List.append_toArray, List.nil_append, List.cons_append]
  have hrg := run_range_map (P := Tryz.prog) W 135 3 3 b #[] clock Tryz.underlying135 hb
  have hnx : ∀ ty, (Instr.next (.pointer (some ⟨W.heap.size, 0, none⟩)) false ty).run Tryz.prog (W.alloc (.mapIter (some b) clock #[] clock)) = .ok (.tuple #[.bool false]) (W.alloc (.mapIter (some b) clock #[] clock)) := fun ty => by
    rcases run_next_map (P := Tryz.prog) W ty b clock clock #[] #[] clock hb (by simp) (Nat.le_refl _) with h | ⟨e, he, _⟩
    · exact h.2
    · simp [leftOf] at he
  gi_wp2
  refine wpIn_loop_rounds 1 ?_
  rw [roundsIn_succ]
  gi_wp2
  exact ⟨rfl, _, results_none rfl _ _ _, ⟨_, rfl⟩, (Below.refl _ _).alloc (Nat.le_refl _) _⟩

/-- maps.Keys of an empty map: its iterator calls nobody. -/
theorem Tryz.keysEmpty557 (n : Nat) (y : Value) (B b clock : Nat) (W : World) (hm : W.cell? ⟨B, 0, none⟩ = some (.map (some b))) (hb : W.heap[b]? = some (.map #[] clock)) :
    CallsIn Fence.wide n Tryz.prog 557 #[y, .pointer (some ⟨B, 0, none⟩)] W fun e W' => (∃ v, e = .returned v) ∧ Below W.heap.size W W' := by
  refine callsIn_of_wp Tryz.func557 rfl trivial ?_ rfl
  simp only [Tryz.ntmps557, List.size_toArray, List.length_cons, List.length_nil, Nat.reduceAdd, Nat.reduceSub, Array.replicate_succ, Array.replicate_zero, List.push_toArray, List.append_toArray, List.nil_append, List.cons_append]
  have hrg := run_range_map (P := Tryz.prog) W 362 3 461 b #[] clock Tryz.underlying362 hb
  have hnx : ∀ ty, (Instr.next (.pointer (some ⟨W.heap.size, 0, none⟩)) false ty).run Tryz.prog (W.alloc (.mapIter (some b) clock #[] clock)) = .ok (.tuple #[.bool false]) (W.alloc (.mapIter (some b) clock #[] clock)) := fun ty => by
    rcases run_next_map (P := Tryz.prog) W ty b clock clock #[] #[] clock hb (by simp) (Nat.le_refl _) with h | ⟨e, he, _⟩
    · exact h.2
    · simp [leftOf] at he
  gi_wp2
  refine wpIn_loop_rounds 1 ?_
  rw [roundsIn_succ]
  gi_wp2
  exact ⟨rfl, _, results_none rfl _ _ _, ⟨_, rfl⟩, (Below.refl _ _).alloc (Nat.le_refl _) _⟩


set_option maxHeartbeats 1000000
/-- slices.AppendSeq of nothing to nil: nil. -/
theorem Tryz.appendSeqEmpty (f B : Nat) (w : World) (hB0 : B < w.heap.size)
    (hf : ∀ W : World, (∀ k, k < w.heap.size → W.heap[k]? = w.heap[k]?) → ∀ y, CallsIn Fence.wide 5 Tryz.prog f #[y, .pointer (some ⟨B, 0, none⟩)] W fun e W' => (∃ v, e = .returned v) ∧ Below W.heap.size W W')
    (hc : ∀ args W, (callFunc f args).run Tryz.prog W = .ok (.enter f args) W) :
    Calls Tryz.prog 518 #[.slice none 0 0, .func (.func f) #[] #[.pointer (some ⟨B, 0, none⟩)]] w fun e w' => e = .returned (.slice none 0 0) ∧ Below w.heap.size w w' := by
  refine (callsIn_wide (n := 6)).1 ?_
  refine callsIn_of_wp_marks Tryz.func518 rfl trivial ?_ rfl
  simp only [Tryz.ntmps518, List.size_toArray, List.length_cons, List.length_nil, Nat.reduceAdd, Nat.reduceSub, Array.replicate_succ, Array.replicate_zero, List.push_toArray, List.append_toArray, List.nil_append, List.cons_append]
  gi_wp2
  obtain ⟨W4, hW4⟩ : ∃ W4, w.alloc (Obj.cells #[Value.slice none 0 0] 81) = W4 := ⟨_, rfl⟩
  have hB4 : Below w.heap.size w W4 := by rw [← hW4]; exact (Below.refl _ w).alloc (Nat.le_refl _) _
  have hsz4 : W4.heap.size = w.heap.size + 1 := by rw [← hW4]; simp
  have d6 : W4.cell? ⟨w.heap.size, 0, none⟩ = some (.slice none 0 0) := by rw [← hW4]; simp
  rw [hW4]
  clear hW4
  refine wpIn_rangeFunc1 rfl f { target := .fn (.func f) #[.pointer (some ⟨B, 0, none⟩)], args := #[.func (.yield (W4.heap.size + 1)) #[] #[]] } #[.func (.yield (W4.heap.size + 1)) #[] #[], .pointer (some ⟨B, 0, none⟩)] trivial (by omega) ?_ ?_ ?_ ?_
  · intro W; simp [resolve, go_sem]
  · intro W f' _; trivial
  · intro W
    have := hc #[.func (.yield (W4.heap.size + 1)) #[] #[], .pointer (some ⟨B, 0, none⟩)] W
    simpa [invoke, go_sem] using this
  · intro r W hr1 hr2 hr3 hB5 hsz5 hD hL
    refine (hf W (fun k hk => (hB5.block k (by omega)).trans (hB4.block k hk)) _).mono ?_
    rintro e W' ⟨⟨v, rfl⟩, hBW⟩
    have hL' : W'.heap[W4.heap.size + 1]? = some (.loop r) := (hBW.block _ (by omega)).trans hL
    have hD' : W'.heap[W4.heap.size]? = some (.deferred (some [])) := (hBW.block _ (by omega)).trans hD
    have hend := run_endLoop (P := Tryz.prog) hL' (by rw [hr1]; simp)
    rw [hr2] at hend
    obtain ⟨W5, hW5⟩ : ∃ W5, W'.putObj (W4.heap.size + 1) (.loop { r with state := .exhausted }) = W5 := ⟨_, rfl⟩
    have hB45 : Below W4.heap.size W4 W5 := by
      rw [← hW5]
      exact (hB5.trans (hBW.mono (by omega))).trans ⟨rfl, rfl, rfl, by simp, fun k hk => World.putObj_heap_other (by omega)⟩
    have hB05 : Below w.heap.size w W5 := hB4.trans (hB45.mono (by omega))
    have hK5 : W5.heap[W4.heap.size]? = some (.deferred (some [])) := by rw [← hW5]; exact (World.putObj_heap_other (by omega)).trans hD'
    rw [show W'.putObj (W4.heap.size + 1) (.loop { r with state := .exhausted, pending := none }) = W5 from by rw [← hW5, ← hr2]] at hend
    clear hW5
    have e6 := (hB45.cell (p := ⟨w.heap.size, 0, none⟩) (by simp; omega)).trans d6
    refine ⟨none, W5, hend, ?_⟩
    clear hend hD hL hD' hL'
    gi_wp2
    rw [hsz4] at hK5
    refine ⟨by simp, .inl ⟨_, _, rfl, run_takeDeferred hK5, ?_⟩⟩
    exact ⟨_, results_tmp rfl _ _ _, rfl, hB05.trans ⟨rfl, rfl, rfl, by simp, fun k hk => World.putObj_heap_other (by omega)⟩⟩

open Go.Sx in
theorem Tryz.prim_appendSeq {B : Base} : PrimOk Tryz.prog B 518 pAppendSeqEmpty := by
  refine ⟨Tryz.call518, fun args H v H' h β w vs hB hR hv => ?_⟩
  unfold pAppendSeqEmpty at h
  split at h
  · rename_i f c
    split at h
    · rename_i hf
      split at h
      · rename_i m rest ro t hg
        split at h
        · rename_i clock hg2
          cases h
          obtain ⟨u1, u2, rfl, h1, h2⟩ := hv.two
          cases h1
          cases h2 with | func _ _ _ a' b' ha hb =>
          obtain ⟨a'⟩ := a'
          obtain ⟨b'⟩ := b'
          simp only at ha hb
          cases ha
          cases hb with | cons _ y _ l hy hl =>
          cases hl
          obtain ⟨cb, base, n, rfl, hβ⟩ := hy.ptr_inv
          obtain ⟨cs, T, fz, hh, hs, hlen, hcells, hz, hty⟩ := hR.obj c _ _ hg hβ
          have hbase : base = 0 := (hty t true rfl).2.1
          subst hbase
          obtain ⟨_, v0, q0, r0⟩ := hcells 0 _ rfl
          obtain ⟨mb, mbase, mn, rfl, hβm⟩ := r0.map_inv
          obtain ⟨es, hm1, hm2⟩ := hR.obj m _ _ hg2 hβm
          simp only [EntriesR, Array.toList_eq_nil_iff] at hm2
          subst hm2
          simp only [Nat.zero_add] at q0 hh hm1
          have c0 : w.cell? ⟨cb, 0, none⟩ = some (.map (some mb)) := by simp [World.cell?, hh, q0]
          have hcb : cb < w.heap.size := World.block_lt_of_cell? _ _ c0
          have hmb : mb < w.heap.size := (Array.getElem?_eq_some_iff.1 hm1).1
          have key : Calls Tryz.prog 518 #[.slice none 0 0, .func (.func f) #[] #[.pointer (some ⟨cb, 0, none⟩)]] w fun e w' => e = .returned (.slice none 0 0) ∧ Below w.heap.size w w' := by
            have hcW : ∀ W : World, (∀ k, k < w.heap.size → W.heap[k]? = w.heap[k]?) → W.cell? ⟨cb, 0, none⟩ = some (.map (some mb)) ∧ W.heap[mb]? = some (.map #[] clock) := fun W hW =>
              ⟨(World.cell?_of_block (hW cb hcb)).trans c0, (hW mb hmb).trans hm1⟩
            rcases hf with rfl | rfl | rfl | rfl
            · exact Tryz.appendSeqEmpty 445 cb w hcb (fun W hW y => Tryz.keysEmpty445 _ y cb mb clock W (hcW W hW).1 (hcW W hW).2) Tryz.call445
            · exact Tryz.appendSeqEmpty 522 cb w hcb (fun W hW y => Tryz.keysEmpty522 _ y cb mb clock W (hcW W hW).1 (hcW W hW).2) Tryz.call522
            · exact Tryz.appendSeqEmpty 549 cb w hcb (fun W hW y => Tryz.keysEmpty549 _ y cb mb clock W (hcW W hW).1 (hcW W hW).2) Tryz.call549
            · exact Tryz.appendSeqEmpty 557 cb w hcb (fun W hW y => Tryz.keysEmpty557 _ y cb mb clock W (hcW W hW).1 (hcW W hW).2) Tryz.call557
          refine key.mono ?_
          rintro e w' ⟨rfl, hb⟩
          exact ends_below hR hb .nilslice
        · cases h
      · cases h
    · cases h
  · cases h
end Go.Proofs
