/-
  What the rows of this seat have in common: the world's shape, the listed variables, the witness.
-/
import Derived.Test.YtoaagilfkboepaaGreatDoorRows
import Derived.Test.YtoaagilfkboepaaGreatDoorRuns
import Derived.HandedShaped
import Derived.Shelf.Vars
import Derived.Stop.LaidErr
import Derived.ProofKit
import Derived.OpenShut
import Derived.LaidMore
import Derived.Lay
import Derived.Lib.LaidTab
import Derived.ChangeMaps5
import Derived.WalkKit
set_option linter.unusedSimpArgs false
set_option linter.unusedVariables false
namespace Go.Proofs.YtoaagilfkboepaaGreatDoor
open Go Go.Sx Go.Proofs Go.RowKit
section
variable {H : Type} {enc : TypeId × Value → H}

/-- The wrap that keeps both a condition on the world and the world's shape. -/
theorem returnsIn_and_shaped {a : Assume} {C : Checked} {os : Os} {f : FuncId} {fn : Func} {s : ChangeSpec} {conds : List PathCond} {apart fresh handsOn again : Bool} {X : World → Array Value → Prop}
    (hX : ∀ (w w' : World) (args : Array Value), w.heap = w'.heap → X w args → X w' args)
    (own : ownKnob C.prog.godebug = none) (started : os.Started) (noInit : C.prog.inits.idxOf? f = none) (hfn : C.prog.funcs[f]? = some fn)
    (witness : ∃ (w : World) (tape : Tape) (i : Input), w.os = os ∧ (w.forCall tape i).Shaped C.prog ∧ i.vars = [] ∧ Input.okWide C.prog (w.forCall tape i) .any w.heap.size f i ∧
      ((s.pre enc C.prog fn conds apart (w.forCall tape i).memory i.args ∧ X (w.forCall tape i).memory i.args) ∧ sizedMet enc C.prog fn (OpenSpec.ofChange s) apart (w.forCall tape i).memory i.args) ∧ a.holds C.prog (lone (Frame.enter C.prog f i.args .normal) [] (w.forCall tape i)))
    (contract : ∀ (W : World) (base : Nat) (args : Array Value) (ds gs : List (DataW H)) (before : List MemPlace),
      (∀ (j : Nat) t v, fn.params[j]? = some t → args[j]? = some v → Value.okWide C.prog W .any base t v) →
      DataW.Whole enc C.prog fn.params.toList s.vars apart W args.toList ds gs before → W.ShapedOpen C.prog → X W args →
      Calls C.prog f args W fun e W' => ∃ v, e = .returned v ∧ s.post enc C.prog fn apart fresh handsOn again W args v W') :
    ReturnsInHanded a C os f .any (fun w args => (s.pre enc C.prog fn conds apart w args ∧ X w args) ∧ sizedMet enc C.prog fn (OpenSpec.ofChange s) apart w args) (s.post enc C.prog fn apart fresh handsOn again) := by
  refine returnsInHanded_of_calls own started noInit witness ?_
  intro w tape i _ hsh _ hok hpre hholds
  obtain ⟨_, _, _, fn', hfn', _, _, _, _, hval⟩ := hok
  have e : fn' = fn := Option.some.inj (hfn'.symm.trans hfn)
  subst e
  obtain ⟨⟨⟨ds, gs, before, hw, hc⟩, hx⟩, hz⟩ := hpre
  have hw' := DataW.Whole.of_heap (w' := w.forCall tape i) (by rfl) hw
  refine (contract (w.forCall tape i) w.heap.size i.args ds gs before hval hw' hsh (hX _ _ _ (by rfl) hx)).mono fun e W' ⟨v, he, hp⟩ => ?_
  subst he
  exact ChangeSpec.post_blind hp
end

/-- The listed variables and what they read as. -/
def laid : List (String × DataW Unit) := [("unicode/utf8.first", Rows.laid_unicode_utf8_first), ("unicode/utf8.acceptRanges", Rows.laid_unicode_utf8_acceptRanges), ("strconv.ErrSyntax", Rows.laid_strconv_ErrSyntax), ("strconv.ErrRange", Rows.laid_strconv_ErrRange), ("internal/strconv.uint64pow10", Rows.laid_internal_strconv_uint64pow10), ("math/bits.deBruijn32tab", Rows.laid_math_bits_deBruijn32tab), ("math/bits.deBruijn64tab", Rows.laid_math_bits_deBruijn64tab)]

theorem own : ownKnob Tryz.prog.godebug = none := by kernel_rfl
theorem gPow : Tryz.prog.globalNamed "internal/strconv.uint64pow10" = some 3 := by kernel_rfl
theorem tPow : (Tryz.prog.globals[3]?).map (·.type) = some 650 := by kernel_rfl
theorem cPow : Tryz.prog.cellsOf 650 = 20 := by kernel_rfl
theorem cWord : Tryz.prog.cellsOf 87 = 1 := by kernel_rfl
theorem plainLaid : True := trivial

/-- What a world that fits gives: the two variables' blocks. -/
theorem blocks {W : World} (hsh : W.ShapedOpen Tryz.prog) (hL : laidMetH Tryz.prog laid W) : ∃ o0 o3, Is0 o0 ∧ Is3 o3 ∧ W.heap[0]? = some o0 ∧ W.heap[3]? = some o3 := by
  rw [MakeChecks.laidMetH_plain _ _ _ (by kernel_rfl)] at hL
  obtain ⟨m, hm⟩ := cell_of_shapedOpen_int (k := .i64) (g := 0) (t := 3) (zero := #[.int .i64 0]) hsh (of_decide_eq_true (by kernel_rfl)) (by kernel_rfl) rfl (by kernel_rfl) (by kernel_rfl) Tryz.underlying3
  have hT := Lib.tabIs_of_head (zs := Lib.pow10Tab) (k := .u64) gPow tPow (e := 87) (n := 20) (by kernel_rfl) (by kernel_rfl) cWord cPow (laidMet.tail (laidMet.tail (laidMet.tail (laidMet.tail hL))))
  unfold Lib.TabIs World.var? at hT
  rw [gPow] at hT
  simp only [Option.bind_some] at hT
  unfold World.cell? at hm
  split at hT
  · rename_i cs T fz h3
    cases hT
    split at hm
    · rename_i cs0 T0 fz0 h0
      refine ⟨_, _, ⟨cs0, T0, fz0, m, rfl, ?_⟩, ⟨T, fz, rfl⟩, h0, h3⟩
      simpa using hm
    · cases hm
  · cases hT

end Go.Proofs.YtoaagilfkboepaaGreatDoor
