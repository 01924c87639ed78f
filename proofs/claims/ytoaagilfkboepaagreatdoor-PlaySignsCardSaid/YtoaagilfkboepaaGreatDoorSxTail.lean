/-
  SX, part 29: the end of a body, run from a frame that is given: what the interpreter answers, the model answers.
-/
import Derived.Test.YtoaagilfkboepaaGreatDoorSxPrims6
set_option linter.unusedSimpArgs false
set_option linter.unusedVariables false
namespace Go.Sx
def aTail (cfg : Cfg) (call : CallFn) (fuel : Nat) (fn : Func) (c : Code) (fr : AFrame) (H : AHeap) : Option (AVal × AHeap) :=
  match aCode cfg call fuel c fr H with
  | some (.exit _, _, _) => none
  | some (_, fr', H') => match aResults cfg.types fr' H' fn.results.toList with
    | some [v] => some (v, H')
    | _ => none
  | none => none
/-- The code behind a body's first n parts. -/
def tailOf : Nat → Code → Code
  | 0, c => c
  | n + 1, .seq _ c => tailOf n c
  | _ + 1, c => c
section
variable {P : Program} {B : Base} {β : Emb} {w : World}
theorem tail_sound {cfg : Cfg} (hc : CfgOk P B cfg) {fuel d : Nat} {fn : Func} {c : Code} (hok : okCode c = true) {fr : AFrame} {H : AHeap} {v : AVal} {H' : AHeap}
    (h : aTail cfg (aCall cfg fuel d) fuel fn c fr H = some (v, H')) {a : Act} (hd : a.defers = []) (hB : B.At β H w) (hF : FrR β fr a.tmps) (hR : Rel β H w.heap) {R : Ending → World → Prop}
    (hQ : ∀ e w', Ends β H w v H' e w' → R e w') : c.wp P (bodyPost P fn R) a w := by
  unfold aTail at h
  split at h
  · cases h
  · rename_i x fr' H1 hne hcode
    refine code_sound hc.types (call_sound hc fuel d) hc.mixed fuel c hok fr H x fr' H1 β a w _ hcode hB hF hR fun β' a' w' hd' hF' hR' hE => ?_
    split at h
    · rename_i u hu
      cases h
      obtain ⟨us, q1, q2⟩ := results_sound hc.types hF' hR' hu
      have hpost : ∃ v', (results fn a'.tmps).run P w' = .ok v' w' ∧ VR β' v v' := by
        cases q2 with
        | cons _ v' _ vs' h1 h2 =>
          cases h2
          refine ⟨v', ?_, h1⟩
          rw [results_run]
          simp [q1]
      obtain ⟨v', e1, e2⟩ := hpost
      have hend := hQ (.returned v') w' ⟨β', v', rfl, e2, hR', hE⟩
      cases x with
      | normal => exact ⟨hd'.trans hd, v', e1, hend⟩
      | ret => exact ⟨hd'.trans hd, v', e1, hend⟩
      | exit id => exact (hne _ rfl).elim
    · cases h
  · cases h
end
end Go.Sx
