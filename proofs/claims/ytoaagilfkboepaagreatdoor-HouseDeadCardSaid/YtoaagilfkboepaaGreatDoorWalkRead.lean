/-
  A text of the proof.
-/
import Derived.Test.YtoaagilfkboepaaGreatDoorWalkBackward
import Derived.Test.YtoaagilfkboepaaGreatDoorSxPrimAll
import Derived.Lib.SliceRun
import Derived.Orders
import Derived.Shelf.RegionOpenPlain
import Derived.KernelRfl
set_option linter.unusedSimpArgs false
set_option linter.unusedVariables false
namespace Go.Proofs
open Go Go.RowKit Go.Shelf
theorem three (w : World) (a b c : Obj) : (((w.alloc a).alloc b).alloc c).heap[w.heap.size]? = some a ∧ (((w.alloc a).alloc b).alloc c).heap[w.heap.size + 1]? = some b ∧ (((w.alloc a).alloc b).alloc c).heap[w.heap.size + 1 + 1]? = some c := by
  refine ⟨?_, ?_, ?_⟩
  · show (((w.heap.push a).push b).push c)[_]? = _
    simp [Array.getElem?_push]; omega
  · show (((w.heap.push a).push b).push c)[_]? = _
    rw [Array.getElem?_push, if_neg (by simp), Array.getElem?_push, if_pos (by simp)]
  · show (((w.heap.push a).push b).push c)[_]? = _
    rw [Array.getElem?_push, if_pos (by simp)]
set_option maxRecDepth 100000 in
theorem Tryz.clothNone (b g o len cap : Nat) (W : World)
    (hp : W.cell? ⟨b, 0, none⟩ = some (.slice (some ⟨g, o, none⟩) len cap)) :
    Calls Tryz.prog 252 #[.pointer (some ⟨b, 0, none⟩)] W fun e W' => e = .returned (.bool false) ∧ W' = W := by
  have heq : (binOp .eql 27 (.slice (some ⟨g, o, none⟩) len cap) (.slice none 0 0)).run Tryz.prog W = .ok (.bool false) W := Lib.run_eql_slice_nil W 27 _ _ _ _ _ _ Tryz.underlying27
  go_enter Tryz.func252, Tryz.ntmps252
  go_wp2
  go_ret
  exact ⟨rfl, rfl⟩
set_option maxRecDepth 100000 in
theorem Tryz.clothMay (b g o len cap : Nat) (row : Int) (W : World)
    (hp : W.cell? ⟨b, 0, none⟩ = some (.slice (some ⟨g, o, none⟩) len cap)) (ht : W.cell? ⟨b, 2, none⟩ = some (.bool false)) (h0 : 0 ≤ row) (h1 : row < len) :
    Calls Tryz.prog 254 #[.pointer (some ⟨b, 0, none⟩), .int .i64 row] W fun e W' => e = .returned (.int .i64 0) ∧ W' = W := by
  go_enter Tryz.func254, Tryz.ntmps254
  go_wp2_with (first
    | (go_at_call 252; refine (Tryz.clothNone b g o len cap _ hp).mono ?_; rintro e w' ⟨rfl, rfl⟩))
  go_ret
  exact ⟨rfl, rfl⟩
set_option maxRecDepth 100000 in
theorem Tryz.clothMayTorn (b g o len cap : Nat) (row : Int) (W : World)
    (hp : W.cell? ⟨b, 0, none⟩ = some (.slice (some ⟨g, o, none⟩) len cap)) (ht : W.cell? ⟨b, 2, none⟩ = some (.bool true)) :
    Calls Tryz.prog 254 #[.pointer (some ⟨b, 0, none⟩), .int .i64 row] W fun e W' => e = .returned (.int .i64 14) ∧ W' = W := by
  go_enter Tryz.func254, Tryz.ntmps254
  go_wp2_with (first
    | (go_at_call 252; refine (Tryz.clothNone b g o len cap _ hp).mono ?_; rintro e w' ⟨rfl, rfl⟩))
  go_ret
  exact ⟨rfl, rfl⟩
set_option maxRecDepth 100000 in
theorem Tryz.clothMayOut (b g o len cap : Nat) (row : Int) (W : World)
    (hp : W.cell? ⟨b, 0, none⟩ = some (.slice (some ⟨g, o, none⟩) len cap)) (ht : W.cell? ⟨b, 2, none⟩ = some (.bool false)) (h0 : row < 0 ∨ len ≤ row) :
    Calls Tryz.prog 254 #[.pointer (some ⟨b, 0, none⟩), .int .i64 row] W fun e W' => e = .returned (.int .i64 1) ∧ W' = W := by
  go_enter Tryz.func254, Tryz.ntmps254
  go_wp2_with (first
    | (go_at_call 252; refine (Tryz.clothNone b g o len cap _ hp).mono ?_; rintro e w' ⟨rfl, rfl⟩))
  all_goals (go_ret; exact ⟨rfl, rfl⟩)
theorem wpIn_rangeFunc1 {F : Fence} {n : Nat} {P : Program} {g : Operand} {ps : Array Tmp} {assign body : Code} {Q : Exit → Act → World → Prop} {a : Act} {w : World} (hro : F.round = none)
    (f : FuncId) (d : Deferred) (args : Array Value) (hf : F.fn f) (hn : 1 ≤ n)
    (hres : ∀ W, (resolve a.eval (rangeCall g (w.heap.size + 1)) 0).run P W = .ok d W) (hlead : ∀ W f', Target.leads P W d.target d.args = some f' → F.fn f') (hinv : ∀ W, (invoke d.target d.args).run P W = .ok (.enter f args) W)
    (hcall : ∀ (r : Loop) (W : World), r.state = .ready → r.pending = none → r.defers = w.heap.size → Below w.heap.size w W → W.heap.size = w.heap.size + 2 → W.heap[w.heap.size]? = some (.deferred (some [])) → W.heap[w.heap.size + 1]? = some (.loop r) →
      CallsIn F (n - 1) P f args W (rangePost F n P (w.heap.size + 1) Q { a with defers := [{ target := .collected w.heap.size, args := #[] }] ++ a.defers })) :
    (Code.rangeFunc g ps assign body).wpIn F n P Q a w := by
  refine wpIn_rangeFunc fun fn hfn => ?_
  rw [hro]
  refine ⟨w.heap.size + 1, [{ target := .collected w.heap.size, args := #[] }], _, d, _, f, args, _, run_enterLoop_outer fn a.tmps ps assign body, hres _, hlead _, hinv _, fun _ => hn, ?_⟩
  refine hcall { state := .ready, pending := none, fn, tmps := a.tmps, params := ps, assign, body, defers := w.heap.size } _ rfl rfl rfl (((Below.refl _ w).alloc (Nat.le_refl _) _).alloc (by simp) _) (by simp)
    ((Below.heap_alloc _ _ _ (by simp)).trans (World.alloc_heap_new w _)) ?_
  have := World.alloc_heap_new (w.alloc (.deferred (some []))) (.loop { state := .ready, pending := none, fn, tmps := a.tmps, params := ps, assign, body, defers := w.heap.size })
  rw [World.size_alloc] at this
  exact this
set_option maxRecDepth 100000 in
theorem Tryz.backward (W : World) : Calls Tryz.prog 255 #[.slice none 0 0] W fun e W' => e = .returned (.func (.func 370) #[] #[.pointer (some ⟨W.heap.size, 0, none⟩)]) ∧ W' = W.alloc (.cells #[.slice none 0 0] 94) := by
  go_enter Tryz.func255, Tryz.ntmps255
  go_wp2
  go_ret
  exact ⟨rfl, rfl⟩
set_option maxRecDepth 100000 in
set_option maxHeartbeats 1000000 in
theorem Tryz.clothRead (b g o len cap : Nat) (row : Int) (s : ByteArray) (w : World)
    (hp : w.cell? ⟨b, 0, none⟩ = some (.slice (some ⟨g, o, none⟩) len cap)) (hl : w.cell? ⟨b, 1, none⟩ = some (.slice none 0 0)) (ht : w.cell? ⟨b, 2, none⟩ = some (.bool false)) (h0 : 0 ≤ row) (h1 : row < len)
    (hs : w.cell? ⟨g, o + row.toNat, none⟩ = some (.string s)) :
    Calls Tryz.prog 134 #[.pointer (some ⟨b, 0, none⟩), .int .i64 row] w fun e w' => e = .returned (.tuple #[.string s, .int .i64 0]) ∧ Below w.heap.size w w' := by
  refine (callsIn_wide (n := 6)).1 ?_
  refine callsIn_of_wp_marks Tryz.func134 rfl trivial ?_ rfl
  simp only [Tryz.ntmps134, List.size_toArray, List.length_cons, List.length_nil, Nat.reduceAdd, Nat.reduceSub, Array.replicate_succ, Array.replicate_zero, List.push_toArray, List.append_toArray, List.nil_append, List.cons_append]
  have hbl : b < w.heap.size := World.block_lt_of_cell? _ _ hp
  have hgl : g < w.heap.size := World.block_lt_of_cell? _ _ hs
  have hf254 : Fence.wide.fn 254 := trivial
  have hf255 : Fence.wide.fn 255 := trivial
  gi_wp2
  obtain ⟨W3, hW3⟩ : ∃ W3, (((w.alloc (Obj.cells #[Value.int IntKind.i64 row] 3)).alloc (Obj.cells #[Value.string { data := #[] }] 9)).alloc (Obj.cells #[Value.int IntKind.i64 0] 30)) = W3 := ⟨_, rfl⟩
  have hB : Below w.heap.size w W3 := by rw [← hW3]; exact (((Below.refl _ w).alloc (Nat.le_refl _) _).alloc (by simp) _).alloc (by simp; omega) _
  have h3 := three w (Obj.cells #[Value.int IntKind.i64 row] 3) (Obj.cells #[Value.string { data := #[] }] 9) (Obj.cells #[Value.int IntKind.i64 0] 30)
  rw [hW3] at h3
  have hsz : W3.heap.size = w.heap.size + 3 := by rw [← hW3]; simp
  have c3 : W3.cell? ⟨w.heap.size, 0, none⟩ = some (.int .i64 row) := by simp [World.cell?, h3.1]
  have c4 : W3.cell? ⟨w.heap.size + 1, 0, none⟩ = some (.string { data := #[] }) := by simp [World.cell?, h3.2.1]
  have c5 : W3.cell? ⟨w.heap.size + 1 + 1, 0, none⟩ = some (.int .i64 0) := by simp [World.cell?, h3.2.2]
  have z4 : W3.frozen? ⟨w.heap.size + 1, 0, none⟩ = false := by simp [World.frozen?, h3.2.1]
  have z5 : W3.frozen? ⟨w.heap.size + 1 + 1, 0, none⟩ = false := by simp [World.frozen?, h3.2.2]
  rw [hW3]
  have hp3 := (hB.cell (p := ⟨b, 0, none⟩) hbl).trans hp
  have hl3 := (hB.cell (p := ⟨b, 1, none⟩) hbl).trans hl
  have ht3 := (hB.cell (p := ⟨b, 2, none⟩) hbl).trans ht
  have hs3 := (hB.cell (p := ⟨g, o + row.toNat, none⟩) hgl).trans hs
  refine (callsIn_wide.2 (Tryz.clothMay b g o len cap row W3 hp3 ht3 h0 h1)).mono ?_
  rintro e w' ⟨rfl, rfl⟩
  clear hW3
  gi_wp2
  refine (callsIn_wide.2 (Tryz.backward w')).mono ?_
  rintro e W4 ⟨rfl, hW4⟩
  have hB4 : Below w.heap.size w W4 := by rw [hW4]; exact hB.alloc (by omega) _
  have hsz4 : W4.heap.size = w.heap.size + 4 := by rw [hW4]; simp; omega
  have hB34 : Below w'.heap.size w' W4 := by rw [hW4]; exact (Below.refl _ _).alloc (Nat.le_refl _) _
  have d3 := (hB34.cell (p := ⟨w.heap.size, 0, none⟩) (by simp; omega)).trans c3
  have d4 := (hB34.cell (p := ⟨w.heap.size + 1, 0, none⟩) (by simp; omega)).trans c4
  have d5 := (hB34.cell (p := ⟨w.heap.size + 1 + 1, 0, none⟩) (by simp; omega)).trans c5
  have y4 := (hB34.frozen (p := ⟨w.heap.size + 1, 0, none⟩) (by simp; omega)).trans z4
  have y5 := (hB34.frozen (p := ⟨w.heap.size + 1 + 1, 0, none⟩) (by simp; omega)).trans z5
  have d6 : W4.cell? ⟨w.heap.size + 3, 0, none⟩ = some (.slice none 0 0) := by rw [hW4, ← hsz]; simp
  clear hW4
  gi_wp2
  refine wpIn_rangeFunc1 rfl 370 { target := .fn (.func 370) #[.pointer (some ⟨w.heap.size + 3, 0, none⟩)], args := #[.func (.yield (W4.heap.size + 1)) #[] #[]] } #[.func (.yield (W4.heap.size + 1)) #[] #[], .pointer (some ⟨w.heap.size + 3, 0, none⟩)] trivial (by omega) ?_ ?_ ?_ ?_
  · intro W; simp [resolve, go_sem]
  · intro W f' _; trivial
  · intro W; simp [invoke, go_sem]
  · intro r W hr1 hr2 hr3 hB5 hsz5 hD hL
    refine (Tryz.backwardNil Fence.wide _ trivial rfl _ (w.heap.size + 3) W ((hB5.cell (by simp; omega)).trans d6)).mono ?_
    rintro e W' ⟨⟨v, rfl⟩, rfl⟩
    have hend := run_endLoop (P := Tryz.prog) hL (by rw [hr1]; simp)
    rw [hr2] at hend
    obtain ⟨W5, hW5⟩ : ∃ W5, W'.putObj (W4.heap.size + 1) (.loop { r with state := .exhausted }) = W5 := ⟨_, rfl⟩
    have hB45 : Below W4.heap.size W4 W5 := by
      rw [← hW5]
      exact hB5.trans ⟨rfl, rfl, rfl, by simp, fun k hk => World.putObj_heap_other (by omega)⟩
    have hB05 : Below w.heap.size w W5 := hB4.trans (hB45.mono (by omega))
    have hK5 : W5.heap[W4.heap.size]? = some (.deferred (some [])) := by rw [← hW5]; exact (World.putObj_heap_other (by omega)).trans hD
    have hsz5' : W5.heap.size = w.heap.size + 6 := by rw [← hW5]; simp; omega
    rw [show W'.putObj (W4.heap.size + 1) (.loop { r with state := .exhausted, pending := none }) = W5 from by rw [← hW5, ← hr2]] at hend
    clear hW5
    have e3 := (hB45.cell (p := ⟨w.heap.size, 0, none⟩) (by simp; omega)).trans d3
    have e4 := (hB45.cell (p := ⟨w.heap.size + 1, 0, none⟩) (by simp; omega)).trans d4
    have e5 := (hB45.cell (p := ⟨w.heap.size + 1 + 1, 0, none⟩) (by simp; omega)).trans d5
    have x4 := (hB45.frozen (p := ⟨w.heap.size + 1, 0, none⟩) (by simp; omega)).trans y4
    have x5 := (hB45.frozen (p := ⟨w.heap.size + 1 + 1, 0, none⟩) (by simp; omega)).trans y5
    have hp5 := (hB05.cell (p := ⟨b, 0, none⟩) hbl).trans hp
    have hs5 := (hB05.cell (p := ⟨g, o + row.toNat, none⟩) hgl).trans hs
    refine ⟨none, W5, hend, ?_⟩
    clear hend hD hL
    gi_wp2
    rw [wpIn_wide]
    have mixed : Tryz.prog.follows .mixedOrders = true := by kernel_rfl
    go_region_o
    obtain ⟨W6, hW6⟩ : ∃ W6, ((W5.setCell { block := w.heap.size + 1, off := 0 } (Value.string s)).setCell { block := w.heap.size + 1 + 1, off := 0 } (Value.int IntKind.i64 0)).drew = W6 := ⟨_, rfl⟩
    have f4 : W6.cell? ⟨w.heap.size + 1, 0, none⟩ = some (.string s) := by
      rw [← hW6, World.cell?_drew, World.cell?_setCell_other _ _ _ _ (by simp)]
      exact World.cell?_setCell_same _ _ _ e4
    have f5 : W6.cell? ⟨w.heap.size + 1 + 1, 0, none⟩ = some (.int .i64 0) := by
      rw [← hW6, World.cell?_drew]
      exact World.cell?_setCell_same _ _ _ (by rw [World.cell?_setCell_other _ _ _ _ (by simp)]; exact e5)
    have hB6 : Below w.heap.size w W6 := by
      rw [← hW6]
      exact ((hB05.setCell (by simp) _).setCell (by simp; omega) _).drew
    have hK6 : W6.heap[w.heap.size + 4]? = some (.deferred (some [])) := by
      rw [← hW6, ← hsz4]
      show ((W5.setCell _ _).setCell _ _).heap[W4.heap.size]? = _
      rw [Below.heap_setCell _ _ _ _ (by simp; omega), Below.heap_setCell _ _ _ _ (by simp; omega)]
      exact hK5
    rw [hW6]
    clear hW6
    gi_wp2
    refine ⟨by simp, .inl ⟨_, _, rfl, run_takeDeferred hK6, ?_⟩⟩
    have g4 : (W6.putObj (w.heap.size + 4) (.deferred none)).cell? ⟨w.heap.size + 1, 0, none⟩ = some (.string s) := (World.cell?_of_block (World.putObj_heap_other (by simp))).trans f4
    have g5 : (W6.putObj (w.heap.size + 4) (.deferred none)).cell? ⟨w.heap.size + 1 + 1, 0, none⟩ = some (.int .i64 0) := (World.cell?_of_block (World.putObj_heap_other (by simp))).trans f5
    refine ⟨.tuple #[.string s, .int .i64 0], ?_, rfl, hB6.trans ⟨rfl, rfl, rfl, by simp, fun k hk => World.putObj_heap_other (by omega)⟩⟩
    have i9 : Tryz.prog.info? 9 = some Tryz.t9 := Go.Sx.info_of Tryz.type9
    have i30 : Tryz.prog.info? 30 = some Tryz.t30 := Go.Sx.info_of Tryz.type30
    rw [Go.Sx.results_run]
    simp [Tryz.f134, Go.Sx.resultRun, go_sem, g4, g5]
set_option maxRecDepth 100000 in
set_option maxHeartbeats 1000000 in
theorem Tryz.clothReadErr (b : Nat) (row n : Int) (hn0 : n ≠ 0) (w : World) (hbl : b < w.heap.size)
    (hM : ∀ W, Below w.heap.size w W → Calls Tryz.prog 254 #[.pointer (some ⟨b, 0, none⟩), .int .i64 row] W fun e W' => e = .returned (.int .i64 n) ∧ W' = W) :
    Calls Tryz.prog 134 #[.pointer (some ⟨b, 0, none⟩), .int .i64 row] w fun e w' => e = .returned (.tuple #[.string ⟨#[]⟩, .int .i64 n]) ∧ Below w.heap.size w w' := by
  refine (callsIn_wide (n := 6)).1 ?_
  refine callsIn_of_wp_marks Tryz.func134 rfl trivial ?_ rfl
  simp only [Tryz.ntmps134, List.size_toArray, List.length_cons, List.length_nil, Nat.reduceAdd, Nat.reduceSub, Array.replicate_succ, Array.replicate_zero, List.push_toArray, List.append_toArray, List.nil_append, List.cons_append]
  have hf254 : Fence.wide.fn 254 := trivial
  have hd : decide (n = 0) = false := by simp [hn0]
  gi_wp2
  obtain ⟨W3, hW3⟩ : ∃ W3, (((w.alloc (Obj.cells #[Value.int IntKind.i64 row] 3)).alloc (Obj.cells #[Value.string { data := #[] }] 9)).alloc (Obj.cells #[Value.int IntKind.i64 0] 30)) = W3 := ⟨_, rfl⟩
  have hB : Below w.heap.size w W3 := by rw [← hW3]; exact (((Below.refl _ w).alloc (Nat.le_refl _) _).alloc (by simp) _).alloc (by simp; omega) _
  have h3 := three w (Obj.cells #[Value.int IntKind.i64 row] 3) (Obj.cells #[Value.string { data := #[] }] 9) (Obj.cells #[Value.int IntKind.i64 0] 30)
  rw [hW3] at h3
  have hsz : W3.heap.size = w.heap.size + 3 := by rw [← hW3]; simp
  have c4 : W3.cell? ⟨w.heap.size + 1, 0, none⟩ = some (.string { data := #[] }) := by simp [World.cell?, h3.2.1]
  have c5 : W3.cell? ⟨w.heap.size + 1 + 1, 0, none⟩ = some (.int .i64 0) := by simp [World.cell?, h3.2.2]
  have z4 : W3.frozen? ⟨w.heap.size + 1, 0, none⟩ = false := by simp [World.frozen?, h3.2.1]
  have z5 : W3.frozen? ⟨w.heap.size + 1 + 1, 0, none⟩ = false := by simp [World.frozen?, h3.2.2]
  rw [hW3]
  refine (callsIn_wide.2 (hM W3 hB)).mono ?_
  rintro e w' ⟨rfl, rfl⟩
  clear hW3
  gi_wp2
  obtain ⟨W6, hW6⟩ : ∃ W6, (w'.setCell { block := w.heap.size + 1, off := 0 } (Value.string { data := #[] })).setCell { block := w.heap.size + 1 + 1, off := 0 } (Value.int IntKind.i64 n) = W6 := ⟨_, rfl⟩
  have g4 : W6.cell? ⟨w.heap.size + 1, 0, none⟩ = some (.string { data := #[] }) := by
    rw [← hW6, World.cell?_setCell_other _ _ _ _ (by simp)]
    exact World.cell?_setCell_same _ _ _ c4
  have g5 : W6.cell? ⟨w.heap.size + 1 + 1, 0, none⟩ = some (.int .i64 n) := by
    rw [← hW6]
    exact World.cell?_setCell_same _ _ _ (by rw [World.cell?_setCell_other _ _ _ _ (by simp)]; exact c5)
  have hB6 : Below w.heap.size w W6 := by
    rw [← hW6]
    exact (hB.setCell (by simp) _).setCell (by simp; omega) _
  rw [hW6]
  refine ⟨.tuple #[.string ⟨#[]⟩, .int .i64 n], ?_, rfl, hB6⟩
  have i9 : Tryz.prog.info? 9 = some Tryz.t9 := Go.Sx.info_of Tryz.type9
  have i30 : Tryz.prog.info? 30 = some Tryz.t30 := Go.Sx.info_of Tryz.type30
  rw [Go.Sx.results_run]
  simp [Tryz.f134, Go.Sx.resultRun, go_sem, g4, g5]
open Go.Sx in
theorem Tryz.prim_clothRead {B : Base} : PrimOk Tryz.prog B 134 pClothReadAt := by
  refine ⟨Tryz.call134, fun args H v H' h β w vs hB hR hv => ?_⟩
  unfold pClothReadAt at h
  split at h
  · rename_i b row
    obtain ⟨u1, u2, rfl, h1, h2⟩ := hv.two
    obtain ⟨c, base, n, rfl, hβ⟩ := h1.ptr_inv
    cases h2.int_inv
    split at h
    · rename_i pb po pn pc ps pe torn rest ro t hb
      obtain ⟨cs, T, fz, hh, hs, hl, hc, hz, hty⟩ := hR.obj b _ _ hb hβ
      have hbase : base = 0 := (hty t true rfl).2.1
      subst hbase
      obtain ⟨_, v0, q0, r0⟩ := hc 0 _ rfl
      obtain ⟨_, v1, q1, r1⟩ := hc 1 _ rfl
      obtain ⟨_, v2, q2, r2⟩ := hc 2 _ rfl
      simp only [Nat.zero_add] at q0 q1 q2 hh
      obtain ⟨gb, gbase, gn, o, cap', rfl, hgβ, ho, hcap, hex, hn, hlen⟩ := r0.slice_inv
      cases r1
      cases r2
      have w0 : w.cell? ⟨c, 0, none⟩ = some (.slice (some ⟨gb, o, none⟩) pn cap') := by simp [World.cell?, hh, q0]
      have w1 : w.cell? ⟨c, 1, none⟩ = some (.slice none 0 0) := by simp [World.cell?, hh, q1]
      have w2 : w.cell? ⟨c, 2, none⟩ = some (.bool torn) := by simp [World.cell?, hh, q2]
      have hcl : c < w.heap.size := World.block_lt_of_cell? _ _ w0
      split at h
      · rename_i ht
        cases h
        subst ht
        refine (Tryz.clothReadErr c row 14 (by omega) w hcl fun W hW => Tryz.clothMayTorn c gb o pn cap' row W ((hW.cell hcl).trans w0) ((hW.cell hcl).trans w2)).mono ?_
        rintro e w' ⟨rfl, hb'⟩
        exact ends_below hR hb' (.tuple _ _ (.cons _ _ _ _ (VR.str ⟨#[]⟩) (.cons _ _ _ _ (.int _ _) .nil)))
      · rename_i ht
        have ht' : torn = false := by simpa using ht
        subst ht'
        split at h
        · rename_i hr
          cases h
          refine (Tryz.clothReadErr c row 1 (by omega) w hcl fun W hW => Tryz.clothMayOut c gb o pn cap' row W ((hW.cell hcl).trans w0) ((hW.cell hcl).trans w2) (by omega)).mono ?_
          rintro e w' ⟨rfl, hb'⟩
          exact ends_below hR hb' (.tuple _ _ (.cons _ _ _ _ (VR.str ⟨#[]⟩) (.cons _ _ _ _ (.int _ _) .nil)))
        · rename_i hr
          split at h
          · rename_i us uro uty hu
            split at h
            · rename_i s hus
              cases h
              obtain ⟨cs2, T2, fz2, hh2, hs2, hl2, hc2, hz2, hty2⟩ := hR.obj pb _ _ hu hgβ
              obtain ⟨_, vv, qq, rr⟩ := hc2 _ _ hus
              obtain ⟨sb, rfl, hsb⟩ := rr.str_inv
              have ho' : o = gbase + po := by
                rcases ho with h | h
                · exact h
                · omega
              simp only at hh2
              have w3 : w.cell? ⟨gb, o + row.toNat, none⟩ = some (.string sb) := by
                simp [World.cell?, hh2, ho', Nat.add_assoc, qq]
              refine (Tryz.clothRead c gb o pn cap' row sb w w0 w1 w2 (by omega) (by omega) w3).mono ?_
              rintro e w' ⟨rfl, hb'⟩
              exact ends_below hR hb' (.tuple _ _ (.cons _ _ _ _ (hsb ▸ VR.str sb) (.cons _ _ _ _ (.int _ _) .nil)))
            · cases h
          · cases h
    · cases h
  · cases h
end Go.Proofs
