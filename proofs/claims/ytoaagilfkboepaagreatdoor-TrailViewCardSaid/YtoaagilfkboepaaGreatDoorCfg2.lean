/-
  The second config is right. Printed by a program of ours (cfg2.py).
-/
import Derived.Test.YtoaagilfkboepaaGreatDoorCfg2Def
import Derived.Test.YtoaagilfkboepaaGreatDoorRuns
import Derived.Test.YtoaagilfkboepaaGreatDoorWalkDiffer
import Derived.KernelRfl
set_option linter.unusedSimpArgs false
set_option linter.unusedVariables false
namespace Go.Proofs.YtoaagilfkboepaaGreatDoor
open Go Go.Sx Go.Proofs Go.RowKit
variable {o0 o3 : Obj} {more : Base}
def isUnit : Option (AVal × AHeap) → Bool
  | some (.tuple [], _) => true
  | _ => false
theorem sortNil : isUnit (aCall cfg 100000 200 444 [.nilslice] noHeap) = true := by kernel_rfl
theorem sort_nil (h0 : Is0 o0) (h3 : Is3 o3) (w : World) (hB : ∀ p ∈ base o0 o3 more, w.heap[p.1]? = some p.2) : Calls Tryz.prog 444 #[.slice none 0 0] w fun e w' => e = .returned (.tuple #[]) ∧ Below w.heap.size w w' := by
  have h := sortNil
  unfold isUnit at h
  split at h
  · rename_i H' hr
    refine ((call_sound (cfgOk (more := more) h0 h3) 100000 200 444 [.nilslice] noHeap _ _ hr).2 (fun _ => none) w #[.slice none 0 0] (fun p hp => ⟨hB p hp, (fun _ _ _ _ e => nomatch e)⟩) (noRel _) (.cons _ _ _ _ .nilslice .nil)).mono ?_
    rintro e w' ⟨β', v', rfl, hv', _, hE⟩
    cases hv' with | tuple _ cs' hcs =>
    obtain ⟨cs'⟩ := cs'
    cases hcs
    exact ⟨rfl, hE.os, hE.tape, hE.output, hE.size, fun c hc => hE.frame c hc fun _ _ _ _ e => nomatch e⟩
  · cases h
theorem prim_differ (h0 : Is0 o0) (h3 : Is3 o3) : PrimOk Tryz.prog (base o0 o3 more) 527 pDifferEmpty := by
  refine ⟨Tryz.call527, fun args H v H' h β w vs hB hR hv => ?_⟩
  unfold pDifferEmpty at h
  split at h
  · rename_i a b
    split at h
    · rename_i c1 c2 hg1 hg2
      cases h
      obtain ⟨u1, u2, rfl, h1, h2⟩ := hv.two
      obtain ⟨b1, base1, n1, rfl, hβ1⟩ := h1.map_inv
      obtain ⟨b2, base2, n2, rfl, hβ2⟩ := h2.map_inv
      obtain ⟨es1, q1, r1⟩ := hR.obj a _ _ hg1 hβ1
      obtain ⟨es2, q2, r2⟩ := hR.obj b _ _ hg2 hβ2
      simp only [EntriesR, Array.toList_eq_nil_iff] at r1 r2
      subst r1
      subst r2
      refine (Tryz.differEmpty b1 b2 c1 c2 w q1 q2 fun W hW => sort_nil (more := more) h0 h3 W fun p hp => ?_).mono ?_
      · exact (hW.block p.1 (Array.getElem?_eq_some_iff.1 (hB p hp).1).1).trans (hB p hp).1
      · rintro e w' ⟨rfl, hb⟩
        exact ends_below hR hb .nilslice
    · cases h
  · cases h
theorem pr518 : PrimOk Tryz.prog (base o0 o3 more) 518 pAppendSeqEmpty := Tryz.prim_appendSeq
theorem pr527 (h0 : Is0 o0) (h3 : Is3 o3) : PrimOk Tryz.prog (base o0 o3 more) 527 pDifferEmpty := prim_differ h0 h3
theorem prAll2 (h0 : Is0 o0) (h3 : Is3 o3) : prTree2.Every (PrimOk Tryz.prog (base o0 o3 more)) id := ⟨every_none, ⟨every_none, ⟨every_none, ⟨every_none, ⟨every_none, trivial, ⟨every_none, ⟨every_none, ⟨every_none, ⟨every_none, ⟨every_some (pr527 h0 h3), trivial, trivial⟩, trivial⟩, trivial⟩, trivial⟩, trivial⟩⟩, trivial⟩, ⟨every_none, ⟨every_none, ⟨every_none, ⟨every_none, ⟨every_none, ⟨every_some pr259, trivial, trivial⟩, trivial⟩, trivial⟩, trivial⟩, ⟨every_some pr51, trivial, trivial⟩⟩, ⟨every_none, ⟨every_none, trivial, ⟨every_some pr107, trivial, trivial⟩⟩, trivial⟩⟩⟩, ⟨every_none, ⟨every_none, ⟨every_none, ⟨every_some (pr33 h0 h3), trivial, trivial⟩, trivial⟩, ⟨every_none, ⟨every_none, trivial, ⟨every_none, trivial, ⟨every_some (pr233 h0 h3), trivial, trivial⟩⟩⟩, trivial⟩⟩, trivial⟩⟩, ⟨every_none, ⟨every_none, ⟨every_none, ⟨every_none, ⟨every_none, ⟨every_none, ⟨every_none, ⟨every_some pr256, trivial, trivial⟩, trivial⟩, trivial⟩, trivial⟩, ⟨every_some (pr48 h0 h3), trivial, ⟨every_none, trivial, ⟨every_none, ⟨every_some pr368, trivial, trivial⟩, trivial⟩⟩⟩⟩, ⟨every_none, ⟨every_none, ⟨every_none, ⟨every_some pr136, trivial, trivial⟩, trivial⟩, trivial⟩, ⟨every_some pr56, trivial, ⟨every_none, trivial, ⟨every_none, ⟨every_some pr376, trivial, trivial⟩, trivial⟩⟩⟩⟩⟩, ⟨every_none, ⟨every_none, ⟨every_none, ⟨every_none, ⟨every_none, ⟨every_some pr260, trivial, trivial⟩, trivial⟩, trivial⟩, trivial⟩, trivial⟩, trivial⟩⟩, ⟨every_none, ⟨every_none, ⟨every_none, ⟨every_none, ⟨every_none, ⟨every_none, ⟨every_some pr258, trivial, trivial⟩, trivial⟩, trivial⟩, trivial⟩, trivial⟩, ⟨every_none, ⟨every_none, trivial, ⟨every_none, trivial, ⟨every_some pr234, trivial, trivial⟩⟩⟩, trivial⟩⟩, ⟨every_none, ⟨every_none, ⟨every_none, ⟨every_none, ⟨every_some pr134, ⟨every_some pr262, ⟨every_some pr518, trivial, trivial⟩, trivial⟩, trivial⟩, trivial⟩, trivial⟩, trivial⟩, ⟨every_none, ⟨every_none, ⟨every_none, ⟨every_some pr142, trivial, trivial⟩, trivial⟩, trivial⟩, trivial⟩⟩⟩⟩⟩
theorem fnr350 : FnRow Tryz.prog 350 Tryz.f350 := ⟨Tryz.func350, Tryz.call350, by kernel_rfl⟩
theorem fnr685 : FnRow Tryz.prog 685 Tryz.f685 := ⟨Tryz.func685, Tryz.call685, by kernel_rfl⟩
theorem fnr686 : FnRow Tryz.prog 686 Tryz.f686 := ⟨Tryz.func686, Tryz.call686, by kernel_rfl⟩
theorem fnr687 : FnRow Tryz.prog 687 Tryz.f687 := ⟨Tryz.func687, Tryz.call687, by kernel_rfl⟩
theorem fnr_told {f : FuncId} {fn : Func} (h : FnRow Tryz.prog f fn) : Tryz.prog.funcs[f]? = some fn ∧ (∀ (vs : Array Value) (w : World), (callFunc f vs).run Tryz.prog w = .ok (.enter f vs) w) ∧ ∀ c, fn.body = some c → okCode c = true := by
  refine ⟨h.get, h.enter, fun c hc => ?_⟩
  have := h.ok
  rw [hc] at this
  exact this
theorem cfg2_funcs (f : FuncId) : cfg2.funcs f = (match f with | 350 => some Tryz.f350 | 685 => some Tryz.f685 | 686 => some Tryz.f686 | 687 => some Tryz.f687 | f => fnTree.get f) := rfl
theorem cfg2_types (t : TypeId) : cfg2.types t = (match t with | 533 => some ty533b | t => tyTree.get t) := rfl
theorem tyr533b : TyRow Tryz.prog 533 ty533b := ⟨⟨Tryz.t533, Tryz.type533, by kernel_rfl⟩, Tryz.underlying533, fun h => by cases h⟩
noncomputable def tree533 : Tr TInfo := (.node (.node .leaf none (.node .leaf none (.node (.node .leaf none (.node (.node (.node (.node (.node .leaf (some ty533b) .leaf) none .leaf) none .leaf) none .leaf) none .leaf)) none .leaf))) none .leaf)
theorem tyOk533 : TyOk Tryz.prog tree533.get := tyOk_of (show tree533.Every (TyRow Tryz.prog) id from ⟨every_none, ⟨every_none, trivial, ⟨every_none, trivial, ⟨every_none, ⟨every_none, trivial, ⟨every_none, ⟨every_none, ⟨every_none, ⟨every_none, ⟨every_some tyr533b, trivial, trivial⟩, trivial⟩, trivial⟩, trivial⟩, trivial⟩⟩, trivial⟩⟩⟩, trivial⟩)
theorem tree533_at : tree533.get 533 = some ty533b := by kernel_rfl
theorem cfg2_typesOk : TyOk Tryz.prog cfg2.types := by
  have A : TyOk Tryz.prog tyTree.get := tyOk_of tyAll
  have B := tyOk533
  have hor : ∀ t i, cfg2.types t = some i → tree533.get t = some i ∨ tyTree.get t = some i := by
    intro t i h
    rw [cfg2_types] at h
    split at h
    · left
      rw [← h]
      exact tree533_at
    · right
      exact h
  exact ⟨fun t i h => (hor t i h).elim (B.desc t i) (A.desc t i), fun t i h => (hor t i h).elim (B.size t i) (A.size t i), fun t i h => (hor t i h).elim (B.zero t i) (A.zero t i), fun t i h => (hor t i h).elim (B.plain t i) (A.plain t i),
    fun t i name f p h => (hor t i h).elim (B.methods t i name f p) (A.methods t i name f p)⟩
theorem cfgOk2 (h0 : Is0 o0) (h3 : Is3 o3) : CfgOk Tryz.prog (base o0 o3 more) cfg2 :=
  have k : CfgOk Tryz.prog (base o0 o3 more) { types := tyTree.get, funcs := fnTree.get, prims := prTree2.get } := cfgOk_of tyAll (by kernel_rfl) fnAll (prAll2 h0 h3)
  { types := cfg2_typesOk, mixed := k.mixed, prims := k.prims, funcs := fun f fn h => by
      rw [cfg2_funcs] at h
      split at h
      · obtain rfl := Option.some.inj h
        exact fnr_told fnr350
      · obtain rfl := Option.some.inj h
        exact fnr_told fnr685
      · obtain rfl := Option.some.inj h
        exact fnr_told fnr686
      · obtain rfl := Option.some.inj h
        exact fnr_told fnr687
      · exact k.funcs f fn h }
end Go.Proofs.YtoaagilfkboepaaGreatDoor
