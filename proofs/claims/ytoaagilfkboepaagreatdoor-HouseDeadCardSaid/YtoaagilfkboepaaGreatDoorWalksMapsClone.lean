/-
  A text of the proof.
-/
import Derived.Test.YtoaagilfkboepaaGreatDoorProg
import Derived.Test.YtoaagilfkboepaaGreatDoorSxCodeAll
import Derived.Laws.Externs
import Derived.MapKept
import Derived.WalkKit
set_option linter.unusedSimpArgs false
set_option linter.unusedVariables false
namespace Go.Proofs
open Go Go.RowKit Go.Sx
theorem mc_eql {P : Program} {t k v : TypeId} (h : P.underlying t = some (.map k v)) (b : Option Nat) (w : World) : (binOp .eql t (.map b) (.map none)).run P w = .ok (.bool b.isNone) w := by
  have he : ∀ d, (Op.equalIn (d + 1) t (.map b) (.map none)).run P w = .ok b.isNone w := fun d => by cases b <;> simp [Op.equalIn, Go.run_underlying h]
  exact run_eql_of w rfl he
theorem mc_assert {P : Program} {t k v : TypeId} (h : P.underlying t = some (.map k v)) (x : Value) (u : TypeId) (w : World) : (Instr.typeAssert (.iface t x) u t false).run P w = .ok x w := by
  simp [Instr.typeAssert, Go.run_underlying h, go_sem, Result.andThen]
theorem mc_clone {P : Program} {r : Nat} {es : Array MapEntry} {clock : Nat} (t : TypeId) (w : World) (hb : w.heap[r]? = some (.map es clock)) :
    (Extern.MapsClone.clone #[.iface t (.map (some r))]).run P w = .ok (.iface t (.map (some w.heap.size))) (w.alloc (.map es clock)) := by
  have e : Extern.MapsClone.clone #[.iface t (.map (some r))] = (getObj r >>= fun o => match o with
      | .map entries clock => (newObj (.map entries clock) >>= fun n => pure (.iface t (.map (some n))))
      | _ => stuck "maps.clone: a map expected") := rfl
  rw [e]
  simp [MapKept.run_getObj_map hb, Result.andThen, go_sem]

set_option maxRecDepth 100000 in
theorem Tryz.mapsClone142 (b : Nat) (es : Array MapEntry) (clock : Nat) (w : World) (hb : w.heap[b]? = some (.map es clock)) :
    Calls Tryz.prog 142 #[.map (some b)] w fun e w' => e = .returned (.map (some w.heap.size)) ∧ w' = w.alloc (.map es clock) := by
  have hq := fun w => mc_eql (P := Tryz.prog) Tryz.underlying138 (some b) w
  go_enter Tryz.func142, Tryz.ntmps142
  go_wp2
  rw [run_callFunc_extern Tryz.func263 (by kernel_rfl) (by kernel_rfl) (by kernel_rfl) (e := Extern.MapsClone.clone) (by kernel_rfl), mc_clone 138 w hb]
  simp only [Result.andThen]
  rw [Oper.upon_value]
  go_wp2
  rw [mc_assert Tryz.underlying138]
  simp only [Result.andThen]
  rw [Oper.upon_value]
  go_wp2
  go_ret
  exact ⟨rfl, rfl⟩
set_option maxRecDepth 100000 in
theorem Tryz.mapsCloneNil142 (w : World) : Calls Tryz.prog 142 #[.map none] w fun e w' => e = .returned (.map none) ∧ w' = w := by
  have hq := fun w => mc_eql (P := Tryz.prog) Tryz.underlying138 none w
  go_enter Tryz.func142, Tryz.ntmps142
  go_wp2
  go_ret
  exact ⟨rfl, rfl⟩
set_option maxRecDepth 100000 in
theorem Tryz.mapsClone234 (b : Nat) (es : Array MapEntry) (clock : Nat) (w : World) (hb : w.heap[b]? = some (.map es clock)) :
    Calls Tryz.prog 234 #[.map (some b)] w fun e w' => e = .returned (.map (some w.heap.size)) ∧ w' = w.alloc (.map es clock) := by
  have hq := fun w => mc_eql (P := Tryz.prog) Tryz.underlying117 (some b) w
  go_enter Tryz.func234, Tryz.ntmps234
  go_wp2
  rw [run_callFunc_extern Tryz.func263 (by kernel_rfl) (by kernel_rfl) (by kernel_rfl) (e := Extern.MapsClone.clone) (by kernel_rfl), mc_clone 117 w hb]
  simp only [Result.andThen]
  rw [Oper.upon_value]
  go_wp2
  rw [mc_assert Tryz.underlying117]
  simp only [Result.andThen]
  rw [Oper.upon_value]
  go_wp2
  go_ret
  exact ⟨rfl, rfl⟩
set_option maxRecDepth 100000 in
theorem Tryz.mapsCloneNil234 (w : World) : Calls Tryz.prog 234 #[.map none] w fun e w' => e = .returned (.map none) ∧ w' = w := by
  have hq := fun w => mc_eql (P := Tryz.prog) Tryz.underlying117 none w
  go_enter Tryz.func234, Tryz.ntmps234
  go_wp2
  go_ret
  exact ⟨rfl, rfl⟩
set_option maxRecDepth 100000 in
theorem Tryz.mapsClone258 (b : Nat) (es : Array MapEntry) (clock : Nat) (w : World) (hb : w.heap[b]? = some (.map es clock)) :
    Calls Tryz.prog 258 #[.map (some b)] w fun e w' => e = .returned (.map (some w.heap.size)) ∧ w' = w.alloc (.map es clock) := by
  have hq := fun w => mc_eql (P := Tryz.prog) Tryz.underlying121 (some b) w
  go_enter Tryz.func258, Tryz.ntmps258
  go_wp2
  rw [run_callFunc_extern Tryz.func263 (by kernel_rfl) (by kernel_rfl) (by kernel_rfl) (e := Extern.MapsClone.clone) (by kernel_rfl), mc_clone 121 w hb]
  simp only [Result.andThen]
  rw [Oper.upon_value]
  go_wp2
  rw [mc_assert Tryz.underlying121]
  simp only [Result.andThen]
  rw [Oper.upon_value]
  go_wp2
  go_ret
  exact ⟨rfl, rfl⟩
set_option maxRecDepth 100000 in
theorem Tryz.mapsCloneNil258 (w : World) : Calls Tryz.prog 258 #[.map none] w fun e w' => e = .returned (.map none) ∧ w' = w := by
  have hq := fun w => mc_eql (P := Tryz.prog) Tryz.underlying121 none w
  go_enter Tryz.func258, Tryz.ntmps258
  go_wp2
  go_ret
  exact ⟨rfl, rfl⟩
set_option maxRecDepth 100000 in
theorem Tryz.mapsClone259 (b : Nat) (es : Array MapEntry) (clock : Nat) (w : World) (hb : w.heap[b]? = some (.map es clock)) :
    Calls Tryz.prog 259 #[.map (some b)] w fun e w' => e = .returned (.map (some w.heap.size)) ∧ w' = w.alloc (.map es clock) := by
  have hq := fun w => mc_eql (P := Tryz.prog) Tryz.underlying125 (some b) w
  go_enter Tryz.func259, Tryz.ntmps259
  go_wp2
  rw [run_callFunc_extern Tryz.func263 (by kernel_rfl) (by kernel_rfl) (by kernel_rfl) (e := Extern.MapsClone.clone) (by kernel_rfl), mc_clone 125 w hb]
  simp only [Result.andThen]
  rw [Oper.upon_value]
  go_wp2
  rw [mc_assert Tryz.underlying125]
  simp only [Result.andThen]
  rw [Oper.upon_value]
  go_wp2
  go_ret
  exact ⟨rfl, rfl⟩
set_option maxRecDepth 100000 in
theorem Tryz.mapsCloneNil259 (w : World) : Calls Tryz.prog 259 #[.map none] w fun e w' => e = .returned (.map none) ∧ w' = w := by
  have hq := fun w => mc_eql (P := Tryz.prog) Tryz.underlying125 none w
  go_enter Tryz.func259, Tryz.ntmps259
  go_wp2
  go_ret
  exact ⟨rfl, rfl⟩
set_option maxRecDepth 100000 in
theorem Tryz.mapsClone260 (b : Nat) (es : Array MapEntry) (clock : Nat) (w : World) (hb : w.heap[b]? = some (.map es clock)) :
    Calls Tryz.prog 260 #[.map (some b)] w fun e w' => e = .returned (.map (some w.heap.size)) ∧ w' = w.alloc (.map es clock) := by
  have hq := fun w => mc_eql (P := Tryz.prog) Tryz.underlying129 (some b) w
  go_enter Tryz.func260, Tryz.ntmps260
  go_wp2
  rw [run_callFunc_extern Tryz.func263 (by kernel_rfl) (by kernel_rfl) (by kernel_rfl) (e := Extern.MapsClone.clone) (by kernel_rfl), mc_clone 129 w hb]
  simp only [Result.andThen]
  rw [Oper.upon_value]
  go_wp2
  rw [mc_assert Tryz.underlying129]
  simp only [Result.andThen]
  rw [Oper.upon_value]
  go_wp2
  go_ret
  exact ⟨rfl, rfl⟩
set_option maxRecDepth 100000 in
theorem Tryz.mapsCloneNil260 (w : World) : Calls Tryz.prog 260 #[.map none] w fun e w' => e = .returned (.map none) ∧ w' = w := by
  have hq := fun w => mc_eql (P := Tryz.prog) Tryz.underlying129 none w
  go_enter Tryz.func260, Tryz.ntmps260
  go_wp2
  go_ret
  exact ⟨rfl, rfl⟩
set_option maxRecDepth 100000 in
theorem Tryz.mapsClone262 (b : Nat) (es : Array MapEntry) (clock : Nat) (w : World) (hb : w.heap[b]? = some (.map es clock)) :
    Calls Tryz.prog 262 #[.map (some b)] w fun e w' => e = .returned (.map (some w.heap.size)) ∧ w' = w.alloc (.map es clock) := by
  have hq := fun w => mc_eql (P := Tryz.prog) Tryz.underlying135 (some b) w
  go_enter Tryz.func262, Tryz.ntmps262
  go_wp2
  rw [run_callFunc_extern Tryz.func263 (by kernel_rfl) (by kernel_rfl) (by kernel_rfl) (e := Extern.MapsClone.clone) (by kernel_rfl), mc_clone 135 w hb]
  simp only [Result.andThen]
  rw [Oper.upon_value]
  go_wp2
  rw [mc_assert Tryz.underlying135]
  simp only [Result.andThen]
  rw [Oper.upon_value]
  go_wp2
  go_ret
  exact ⟨rfl, rfl⟩
set_option maxRecDepth 100000 in
theorem Tryz.mapsCloneNil262 (w : World) : Calls Tryz.prog 262 #[.map none] w fun e w' => e = .returned (.map none) ∧ w' = w := by
  have hq := fun w => mc_eql (P := Tryz.prog) Tryz.underlying135 none w
  go_enter Tryz.func262, Tryz.ntmps262
  go_wp2
  go_ret
  exact ⟨rfl, rfl⟩
set_option maxRecDepth 100000 in
theorem Tryz.mapsClone376 (b : Nat) (es : Array MapEntry) (clock : Nat) (w : World) (hb : w.heap[b]? = some (.map es clock)) :
    Calls Tryz.prog 376 #[.map (some b)] w fun e w' => e = .returned (.map (some w.heap.size)) ∧ w' = w.alloc (.map es clock) := by
  have hq := fun w => mc_eql (P := Tryz.prog) Tryz.underlying362 (some b) w
  go_enter Tryz.func376, Tryz.ntmps376
  go_wp2
  rw [run_callFunc_extern Tryz.func263 (by kernel_rfl) (by kernel_rfl) (by kernel_rfl) (e := Extern.MapsClone.clone) (by kernel_rfl), mc_clone 362 w hb]
  simp only [Result.andThen]
  rw [Oper.upon_value]
  go_wp2
  rw [mc_assert Tryz.underlying362]
  simp only [Result.andThen]
  rw [Oper.upon_value]
  go_wp2
  go_ret
  exact ⟨rfl, rfl⟩
set_option maxRecDepth 100000 in
theorem Tryz.mapsCloneNil376 (w : World) : Calls Tryz.prog 376 #[.map none] w fun e w' => e = .returned (.map none) ∧ w' = w := by
  have hq := fun w => mc_eql (P := Tryz.prog) Tryz.underlying362 none w
  go_enter Tryz.func376, Tryz.ntmps376
  go_wp2
  go_ret
  exact ⟨rfl, rfl⟩
end Go.Proofs
